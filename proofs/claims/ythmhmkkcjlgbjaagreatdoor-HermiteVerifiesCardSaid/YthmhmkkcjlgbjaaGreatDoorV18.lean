/- Part 18 of the proof of the claim: contracts of the functions that it reaches, and plain laws; no condition. -/
import Derived.Test.YthmhmkkcjlgbjaaGreatDoorV17
import Derived.Test.YthmhmkkcjlgbjaaGreatDoorV15
/- schismaref03: divide -/
namespace Go.Proofs.YthmhmkkcjlgbjaaGreatDoor
open Go.RowKit Go.Sort
section
variable {w : World} {ops : Array Oper} {rest : List Oper} {o : Oper} {a : Act} {Q : Exit → Act → World → Prop}
/-- append(row, row2...), the second one empty or not -/
theorem app_row (hgd : o.guard = none) (s x : Operand) (t : TypeId) (ht : Tryz.prog.underlying t = some (.slice 3)) (ho : o.op = .call { callee := .builtin .append, args := #[s, x], argTypes := #[t, t] })
    {B : Nat} {v : Value} {r : List Int} (hs : a.eval s = v) (hown : RowV B w v r) {vx : Value} {z : List Int} (hx : a.eval x = vx) (hR : RowR w vx z) (hl : r.length + z.length ≤ 1000000000) (hB : B ≤ w.heap.size)
    (h : ∀ v' w', RowV B w' v' (r ++ z) → Below B w w' → w.grownBy w' v.ownBlock → wpList Tryz.prog ops Q rest (a.put o.dst v') w') : wpList Tryz.prog ops Q (o :: rest) a w := by
  obtain ⟨i0, hi, hz0, hz1, hz2⟩ := info_parts Tryz.infoInt
  obtain ⟨sa, b, c, gc, rfl, hc, hS⟩ := hR
  have hrun : ∃ v' w', (Builtin.append_ #[t, t] o.type #[v, .slice sa z.length gc]).run Tryz.prog w = .ok v' w' ∧ w'.ownsRow B 3 1 v' (r.length + z.length) (is r ++ is z) ∧ w.grownBy w' v.ownBlock := by
    rcases sa with _ | ad
    · have hz : z = [] := by
        rcases Nat.eq_zero_or_pos z.length with h0 | h0
        · exact List.eq_nil_of_length_eq_zero h0
        · have := hS.addr (by rw [is_length]; exact h0)
          cases this
      subst hz
      refine ⟨v, w, ?_, by have h1 := hown; unfold RowV at h1; simpa [is] using h1, World.grownBy.refl w _⟩
      rcases hown.2 with ⟨rfl, h0⟩ | ⟨g, cap, cur, rfl, _, _, hnc, _⟩
      · simp [Builtin.append_, run_underlying ht, sizeOf, typeInfo, hi, Builtin.lenOf, Builtin.firstCells]
      · simp [Builtin.append_, run_underlying ht, sizeOf, typeInfo, hi, Builtin.lenOf, Builtin.firstCells, hnc, storeCells]
    · have hcells : ∀ j u, (is z)[j]? = some u → w.cell? (ad.add j) = some u := fun j u hu => by
        have hj := (List.getElem?_eq_some_iff.1 hu).1
        obtain rfl : ad = ⟨b, c, none⟩ := Option.some.inj (hS.addr (by omega))
        rw [Lib.add_plain]; exact hS.cell j u hu
      obtain ⟨v', w', h1, h2, h3, _, _⟩ := run_append_own_at (P := Tryz.prog) w B t o.type 3 i0 _ 1 8 ht hi hz0 hz1 hz2 rfl (by omega) v r.length (is r) hown ad z.length gc (is z) (by rw [is_length, Nat.mul_one]) hcells (fun u hu => by obtain ⟨y, _, rfl⟩ := List.mem_map.1 hu; rfl) (by unfold maxLen; omega) (by omega) hB
      exact ⟨v', w', h1, h2, h3⟩
  obtain ⟨v', w', h1, h2, h3⟩ := hrun
  refine wpList_plain hgd fun _ hK => ?_
  unfold Oper.wp execOp
  simp only [ho, resolve, invoke, builtin, Sem.run_bind, Sem.run_pure, Result.andThen_ok, List.map_toArray, List.map_cons, List.map_nil, hs, hx, h1]
  refine hK _ _ (h v' w' ?_ (Below.grown (Below.refl _ _) h3 hB (fun q hq => (World.ownsRow.lt hown q hq).1)) h3)
  unfold RowV
  rw [show is (r ++ z) = is r ++ is z by simp [is], List.length_append]; exact h2
end
theorem mod_step {u i : Nat} (h : i < (pc u).length) : u % 1000000000 ^ (i + 1) = (pc u)[i] * 1000000000 ^ i + u % 1000000000 ^ i := by
  rw [pc_get i u h, Nat.mod_pow_succ, Nat.mul_comm (1000000000 ^ i), Nat.add_comm]
theorem inv_down {Q v R P u d m m' : Nat} (h : Q * v + R * (P * 1000000000) + m' = u) (hm : m' = d * P + m) : Q * v + (d + 1000000000 * R) * P + m = u := by
  subst hm
  rw [Nat.add_mul, Nat.mul_assoc, Nat.mul_left_comm 1000000000 R P, Nat.mul_comm 1000000000 P]
  omega
theorem inv_set {Q v R P u m d : Nat} (h : Q * v + R * P + m = u) (hd : d * v ≤ R) : (Q + d * P) * v + (R - d * v) * P + m = u := by
  obtain ⟨r, rfl⟩ : ∃ r, R = d * v + r := ⟨R - d * v, by omega⟩
  rw [Nat.add_sub_cancel_left, ← h, Nat.add_mul, Nat.add_mul, Nat.mul_right_comm d P v]
  omega
/-- What a call of divide returns. -/
def DvPost (w : World) (x y : Nat) (e : Ending) (w' : World) : Prop := ∃ vx vy, e = .returned (.tuple #[vx, vy]) ∧ DgR w' vx (pc x) ∧ DgR w' vy (pc y) ∧ Ext w w'
theorem OwnD.row {B : Nat} {w : World} {g cap n : Nat} {p : List Nat} (h : OwnD B w g cap p) (hn : p.length = n) : RowV B w (slv g n cap) (nz p) := by
  subst hn
  unfold OwnD OwnV at h
  rw [is_length, nz_length] at h
  unfold RowV; rw [nz_length]; exact h
theorem vP_set_zero {l : List Nat} {j d : Nat} (h : j < l.length) (h0 : l[j] = 0) : vP (l.set j d) = vP l + d * 1000000000 ^ j := by
  have h1 := vP_set l j d h
  have e : (1000000000 : Int) ^ j = ((1000000000 ^ j : Nat) : Int) := by rw [Int.natCast_pow]; rfl
  rw [h0, e] at h1
  generalize 1000000000 ^ j = P at *
  have e2 : (d : Int) - ((0 : Nat) : Int) = (d : Int) := by omega
  rw [e2, ← Int.natCast_mul] at h1
  omega
theorem RowV.other {w w' : World} {v : Value} {r : List Int} {g : Nat} (h : RowV (g + 1) w v r) (hG : w.grownBy w' (some g)) : RowV (g + 1) w' v r := by
  refine World.ownsRow.kept h hG ?_
  rcases h.2 with ⟨rfl, _⟩ | ⟨g', cap, cur, rfl, hb, _⟩
  · exact .inl rfl
  · refine .inr fun e => ?_
    have : g' = g := Option.some.inj e
    omega
theorem inv_new {qs : List Nat} {v R u m i la d : Nat} (hv : 0 < v) (hl : qs.length = la) (hi : i < la) (hs : small9 qs) (hz : ∀ j, j < i + 1 → ∀ h : j < qs.length, qs[j] = 0) (h : vP qs * v + R * 1000000000 ^ i + m = u) (hd : d = R / v) (hd9 : d < 1000000000) :
    (qs.set i d).length = la ∧ small9 (qs.set i d) ∧ (∀ j, j < i → ∀ h : j < (qs.set i d).length, (qs.set i d)[j] = 0) ∧ vP (qs.set i d) * v + (R % v) * 1000000000 ^ i + m = u ∧ R % v < v := by
  refine ⟨by rw [List.length_set]; exact hl, small9_set hs _ hd9, fun j hj h' => ?_, ?_, Nat.mod_lt _ hv⟩
  · rw [List.getElem_set_ne (by omega)]; exact hz j (by omega) _
  · rw [vP_set_zero (by omega) (hz i (by omega) _)]
    have e1 := Nat.div_mul_le_self R v
    have e2 : R % v = R - d * v := by
      have := Nat.div_add_mod R v
      rw [Nat.mul_comm] at this
      rw [hd]; omega
    rw [e2]
    exact inv_set h (by rw [hd]; exact e1)
theorem div_vars {R v : Nat} (hv : 0 < v) (h1 : R / v < 1000000000) (_ : R % v < 1000000000) : ∃ x y q r : Int, x = (R : Int) ∧ y = (v : Int) ∧ q = ((R / v : Nat) : Int) ∧ r = ((R % v : Nat) : Int) ∧ y ≠ 0 ∧ (y == 0) = false ∧ x.tdiv y = q ∧ x.tmod y = r ∧ IntKind.i64.wrap q = q ∧ (0 ≤ q ∧ q < 1000000000) := by
  have h0 : (v : Int) ≠ 0 := by omega
  have h3 : IntKind.i64.wrap ((R / v : Nat) : Int) = ((R / v : Nat) : Int) ∧ (0 ≤ ((R / v : Nat) : Int) ∧ ((R / v : Nat) : Int) < 1000000000) := by
    generalize R / v = d at *
    exact ⟨IntWalk.i64_in _ (by omega), by omega⟩
  refine ⟨_, _, _, _, rfl, rfl, rfl, rfl, h0, beq_eq_false_iff_ne.2 h0, ?_, ?_, h3⟩
  · rw [Int.tdiv_eq_ediv_of_nonneg (by omega)]; rfl
  · rw [Int.tmod_eq_emod_of_nonneg (by omega)]; rfl
set_option maxRecDepth 100000 in
set_option maxHeartbeats 4000000 in
theorem divide_w {w : World} {va vb : Value} {u v : Nat} (hA : DgR w va (pc u)) (hB : DgR w vb (pc v)) (hv : 0 < v) (l1 : (pc u).length ≤ 100000000) (l2 : (pc v).length ≤ 100000000) :
    Calls Tryz.prog 66 #[va, vb] w (DvPost w (u / v) (u % v)) := by
  obtain ⟨ga, b1, o1, c1, rfl, k1, h1⟩ := hA.open
  obtain ⟨gb, b2, o2, c2, rfl, k2, h2⟩ := hB.open
  obtain ⟨i0, hi, hz0, hz1, hz2⟩ := info_parts Tryz.infoInt
  have H1 := Lib.hid h1
  have HB := Lib.hid hB
  have H2 := Lib.hid h2
  obtain ⟨la, hla⟩ : ∃ la, la = (pc u).length := ⟨_, rfl⟩
  obtain ⟨lb, hlb⟩ : ∃ lb, lb = (pc v).length := ⟨_, rfl⟩
  rw [← hla] at l1 k1 ⊢
  rw [← hlb] at HB l2 k2 ⊢
  have Ha := Lib.hid hla
  have Hb := Lib.hid hlb
  clear hA hB h1 h2 hla hlb
  go_enter Tryz.func66, Tryz.ntmps66
  go_wp2_with (at_make; refine wpList_make_full _ rfl _ _ 34 rfl w.heap.size 3 i0 (.int .i64 0) 1 Tryz.underlying34 hi hz0 hz1 .i64 .i64 _ _ la rfl rfl (by omega) (by omega) (by rw [hz2]; omega) (by unfold maxLen; omega) (Nat.le_refl _) ?_; intro w1 hown1 hgrow1)
  have he1 := ext_grown hgrow1
  have hgl : w.heap.size < w1.heap.size := by
    have := World.ownsRow.lt hown1 w.heap.size rfl
    exact this.2
  clear hgrow1
  obtain ⟨g, hg⟩ : ∃ g, g = w.heap.size := ⟨_, rfl⟩
  rw [← hg] at hown1 hgl
  rw [← hg]
  have Hg := Lib.hid hg
  clear hg
  have hO1 : OwnD g w1 g la (List.replicate la 0) := by
    have e : (madeCells (Value.int .i64 0).cells (la * 1)).toList = is (nz (List.replicate la 0)) := by
      rw [show (Value.int .i64 0).cells = #[.int .i64 0] from rfl, toList_madeCells_one, Nat.mul_one]; simp [is, nz]
    rw [e] at hown1
    unfold OwnD OwnV
    rw [is_length, nz_length, List.length_replicate]
    exact hown1
  clear hown1
  go_wp2_with fail
  go_loopw [5, 6] (fun rv idx wr => ∃ (k : Nat) (qs : List Nat) (R : Nat), k ≤ la ∧ idx = .int .i64 ((k : Int) - 1) ∧ Hid (qs.length = la ∧ small9 qs ∧ (∀ j, j < k → ∀ h : j < qs.length, qs[j] = 0) ∧ vP qs * v + R * 1000000000 ^ k + u % 1000000000 ^ k = u ∧ R < v) ∧ Hid (OwnD g wr g la qs) ∧ Hid (RowV (g + 1) wr rv (nz (pc R))) ∧ Ext w wr) (fun _ idx _ => (intOf idx + 1).toNat)
  case atStart =>
    refine ⟨la, List.replicate la 0, 0, Nat.le_refl _, by go_num, Lib.hid ⟨by simp, fun d hd => by rw [List.mem_replicate] at hd; omega, fun j _ h => by simp, ?_, hv⟩, Lib.hid hO1, Lib.hid (by rw [pc_zero]; exact RowV.nil _ _), he1⟩
    have := vP_lt (pc_small u)
    rw [vP_pc, ← Ha.out] at this
    rw [vP_replicate, Nat.mod_eq_of_lt this]; omega
  case round =>
    obtain ⟨k, qs, R, hk, rfl, HI, hQ, hR, hE⟩ := hrel
    generalize wr = X at *
    have hXs := (OwnV.lt hQ.out).2
    have hwX := hE
    rcases Nat.eq_zero_or_pos k with rfl | hk0
    · have hq : vP qs = u / v ∧ R = u % v := by
        obtain ⟨_, _, _, e4, e5⟩ := HI.out
        rw [Nat.pow_zero, Nat.mul_one, Nat.mod_one, Nat.add_zero] at e4
        rw [← e4, Nat.add_comm, Nat.add_mul_div_right _ _ hv, Nat.div_eq_of_lt e5, Nat.zero_add, Nat.add_mul_mod_self_right, Nat.mod_eq_of_lt e5]
        exact ⟨rfl, rfl⟩
      have ht := trim_o (b := false) (hQ.out.row HI.out.1) (by rw [HI.out.1]; omega) HI.out.2.1
      rw [hq.1] at ht
      rw [hq.2] at hR
      have Ht := Lib.hid ht
      obtain ⟨sr, nr, cr, rfl⟩ := row_shape hR.out.row
      clear ht hq
      go_wp2_with fail
      refine Ht.out.mono ?_
      rintro e W5 ⟨b5, d5, rfl, hd5, _, hE5⟩
      have Hd5 := Lib.hid hd5.dg
      obtain ⟨s5, n5, c5, rfl⟩ := row_shape hd5.row
      have hfd := field_w b5 s5 n5 c5
      clear hd5 Ht
      go_wp2_with fail
      go_ret2
      exact ⟨_, _, rfl, Hd5.out, hR.out.dg.ext hE5, hwX.trans hE5⟩
    · obtain ⟨i, rfl⟩ : ∃ i, k = i + 1 := ⟨k - 1, by omega⟩
      have hkz : ((i + 1 : Nat) : Int) - 1 = (i : Int) := by omega
      rw [hkz]
      have hi1 : i < (pc u).length := by rw [← Ha.out]; omega
      have hiL : i < la := by omega
      have hii : (i : Int) < (la : Int) := by omega
      obtain rfl := H1.out.addr (by simp; omega)
      obtain ⟨d0, hd0⟩ : ∃ d0, d0 = (pc u)[i] := ⟨_, rfl⟩
      have hd9 : d0 < 1000000000 := by rw [hd0]; exact small9_get (pc_small u) hi1
      have ca : X.cell? ⟨b1, o1 + i, none⟩ = some (.int .i64 (d0 : Nat)) := by rw [hd0]; exact hwX.cell (H1.out.cell i _ (nz_get hi1))
      obtain ⟨R', hR'⟩ : ∃ R', R' = d0 + 1000000000 * R := ⟨_, rfl⟩
      have hinv : vP qs * v + R' * 1000000000 ^ i + u % 1000000000 ^ i = u := by
        have e4 := HI.out.2.2.2.1
        rw [Nat.pow_succ] at e4
        have hms := mod_step hi1
        rw [← hd0, Nat.pow_succ] at hms
        rw [hR']
        exact inv_down e4 hms
      have Hinv := Lib.hid hinv
      have hRl : (pc R).length ≤ 100000000 := Nat.le_trans (pc_mono (Nat.le_of_lt HI.out.2.2.2.2)) (by rw [← Hb.out]; exact l2)
      have hsm : small9 (d0 :: pc R) := small9_cons.2 ⟨hd9, pc_small R⟩
      have Hsm := Lib.hid hsm
      have hvp : vP (d0 :: pc R) = R' := by rw [hR', vP, vP_pc]
      have Hvp := Lib.hid hvp
      have hR'l : (pc R').length ≤ 100000001 := by
        have h2 : (pc R').length ≤ (d0 :: pc R).length := by
          refine pc_length_le ?_
          have := vP_lt hsm
          rwa [hvp] at this
        rw [List.length_cons] at h2
        omega
      have hnz : ([(d0 : Int)] ++ nz (pc R)) = nz (d0 :: pc R) := rfl
      have Hnz := Lib.hid hnz
      have HRb := Lib.hid (show R' < 1000000000 * v by have := HI.out.2.2.2.2; omega)
      have HRl := Lib.hid (show [(d0 : Int)].length + (nz (pc R)).length ≤ 1000000000 by rw [nz_length]; simp; omega)
      have hRow := Lib.hid hR.out.row
      obtain ⟨sr, nr, cr, rfl⟩ := row_shape hR.out.row
      have HRO := Lib.hid (fun W (hW : Ext X W) => hRow.out.ext hW)
      have HR'l := Lib.hid hR'l
      have Hla1 := Lib.hid (show (d0 :: pc R).length ≤ 10000000000000 by rw [List.length_cons]; omega)
      clear hkz hi1 hd0 hR' hinv hsm hvp hR'l hnz hRl
      go_wp2_with (first
        | (at_builtin; refine app_row rfl _ _ 34 Tryz.underlying34 rfl (B := g + 1) rfl (row_lit X (d0 : Int) (by omega)) rfl (HRO.out _ ((Ext.refl _).alloc _)) HRl.out (by simp; omega) ?_; intro v8 w8 hO8 hB8 hG8; rw [Hnz.out] at hO8; have hE8 : Ext X w8 := Ext.mk' (Below.grown ((Ext.refl X).alloc (.cells #[.int .i64 (d0 : Int)] 3)) hG8 (by simp) (fun q hq => by obtain rfl : X.heap.size = q := Option.some.inj hq; exact Nat.le_refl _)); obtain ⟨s8, n8, c8, rfl⟩ := row_shape hO8.row; have ht := Lib.hid (trim_o (b := false) hO8 Hla1.out Hsm.out); rw [Hvp.out] at ht; clear hO8 hB8 hG8)
        | (go_at_call 67; refine ht.out.mono ?_; rintro e w9 ⟨b9, d9, rfl, hd9r, _, hE9⟩; have hX9 := hE8.trans hE9; have Hd9 := Lib.hid hd9r; obtain ⟨s9, g9, o9, c9, rfl, hc9, hS9⟩ := hd9r.dg.open; have hfd := field_w b9 s9 (pc R').length c9; clear hd9r))
      have HS9 := Lib.hid hS9
      clear hS9 ht ca
      by_cases hlt : R' < v
      · have hc : cmpN R' v = -1 := by unfold cmpN; rw [if_pos hlt]
        have hab := Lib.hid (above_w (w := w9) Hd9.out.dg (HB.out.ext (hwX.trans hX9)) (Nat.le_trans HR'l.out (show 100000001 ≤ 1000000000000 by omega)) (show _ ≤ 1000000000000 by rw [← Hb.out]; omega))
        rw [hc] at hab
        have HI2 := Lib.hid (show qs.length = la ∧ small9 qs ∧ (∀ j, j < i → ∀ h : j < qs.length, qs[j] = 0) ∧ vP qs * v + R' * 1000000000 ^ i + u % 1000000000 ^ i = u ∧ R' < v from
          ⟨HI.out.1, HI.out.2.1, fun j hj h => HI.out.2.2.1 j (by omega) h, Hinv.out, hlt⟩)
        clear hc hlt
        refine hab.out.mono ?_
        rintro e w10 ⟨rfl, hE10⟩
        have hX10 := hX9.trans hE10
        have HQ10 := Lib.hid (show OwnD g w10 g la qs from OwnV.ext hQ.out hX10)
        have Hd10 := Lib.hid (Hd9.out.ext hE10)
        have hE1 := hE.trans hX10
        clear hab
        go_wp2_with fail
        go_roundw
        case rel => exact ⟨i, qs, R', by omega, by go_num, HI2, HQ10, Hd10, hE1⟩
        case measure => simp [intOf] <;> omega
      · have hge : v ≤ R' := by omega
        have hc : ¬ cmpN R' v < 0 := by unfold cmpN; rw [if_neg (by omega)]; split <;> omega
        have hab := Lib.hid (above_w (w := w9) Hd9.out.dg (HB.out.ext (hwX.trans hX9)) (Nat.le_trans HR'l.out (show 100000001 ≤ 1000000000000 by omega)) (show _ ≤ 1000000000000 by rw [← Hb.out]; omega))
        generalize hcz : cmpN R' v = cz at *
        have hcd : decide (cz < 0) = false := decide_eq_false hc
        have hR0 : 0 < (pc R').length := by
          rcases Nat.eq_zero_or_pos (pc R').length with h | h
          · have := pc_nil.1 (List.eq_nil_of_length_eq_zero h); omega
          · exact h
        obtain rfl := HS9.out.addr (by simpa using hR0)
        clear hcz
        refine hab.out.mono ?_
        rintro e w10 ⟨rfl, hE10⟩
        have hX10 := hX9.trans hE10
        have HQ10 := Lib.hid (show OwnD g w10 g la qs from OwnV.ext hQ.out hX10)
        have Hd10 := Lib.hid (Hd9.out.ext hE10)
        have HB10 := Lib.hid (HB.out.ext (hwX.trans hX10))
        have HS10 := Lib.hid (HS9.out.ext hE10)
        have hE1 := hE.trans hX10
        have hsX := hX10.size
        obtain ⟨nR, hnR⟩ : ∃ n, n = (pc R').length := ⟨_, rfl⟩
        rw [← hnR] at Hd10 hc9 hfd ⊢
        have HnR := Lib.hid hnR
        clear hab Hd9 HS9 hX9 hnR hR0 hfd
        by_cases h1 : nR = 1
        · subst h1
          obtain ⟨hp1, hR9⟩ := pc_one HnR.out.symm
          have hvl : (pc v).length = 1 := by
            have e1 := pc_mono hge
            rw [← HnR.out] at e1
            have e2 : (pc v).length ≠ 0 := fun h => by have := pc_nil.1 (List.eq_nil_of_length_eq_zero h); omega
            omega
          obtain ⟨hp2, hv9⟩ := pc_one hvl
          have cr : w10.cell? ⟨g9, o9, none⟩ = some (.int .i64 (R' : Nat)) := by
            have := HS10.out.cell 0 (.int .i64 (R' : Nat)) (by rw [hp1]; rfl)
            simpa using this
          obtain rfl := H2.out.addr (by simp; omega)
          have cb : w10.cell? ⟨b2, o2, none⟩ = some (.int .i64 (v : Nat)) := by
            have := (hwX.trans hX10).cell (H2.out.cell 0 (.int .i64 (v : Nat)) (by rw [hp2]; rfl))
            simpa using this
          obtain rfl : lb = 1 := by rw [Hb.out]; exact hvl
          obtain ⟨d, hd⟩ : ∃ d, d = R' / v := ⟨_, rfl⟩
          obtain ⟨m, hm⟩ : ∃ m, m = R' % v := ⟨_, rfl⟩
          have hd9' : d < 1000000000 := Nat.lt_of_le_of_lt (by rw [hd]; exact Nat.div_le_self _ _) hR9
          have hm9 : m < 1000000000 := Nat.lt_of_le_of_lt (by rw [hm]; exact Nat.mod_le _ _) hR9
          obtain ⟨x, y, q, r, hx, hy, hq, hr, hy0, hyb, e3, e4, e5, e6⟩ := div_vars (R := R') hv (by rw [← hd]; exact hd9') (by rw [← hm]; exact hm9)
          rw [← hd] at hq
          rw [← hm] at hr
          rw [← hx] at cr
          rw [← hy] at cb
          have Hq := Lib.hid hq
          have hvm : vP [m] = m := by simp [vP]
          have hrl : RowV (g + 1) ((w10.drew).alloc (.cells #[.int .i64 r] 3)) (.slice (some ⟨w10.heap.size, 0, none⟩) 1 1) (nz [m]) := by
            have := row_lit w10.drew r (B := g + 1) (show g + 1 ≤ w10.heap.size by omega)
            rw [hr] at this ⊢
            exact this
          have ht := trim_o (b := false) hrl (by simp) (fun x hx => by rw [List.mem_singleton.1 hx]; exact hm9)
          rw [hvm] at ht
          have Ht := Lib.hid ht
          have hiq : i < qs.length := by rw [HI.out.1]; exact hiL
          have hg2 : b2 ≠ g := by
            have := H2.out.lt (by simp; omega)
            have := Hg.out
            omega
          have hg9 : g9 ≠ g := by
            have h := Hd10.out
            intro e
            subst e
            have := (World.ownsRow.lt h g9 rfl).1
            omega
          have hEd := ((Ext.refl w10).drew).alloc (.cells #[.int .i64 r] 3)
          have s4 := And.intro (((Ext.refl w10).drew).cell cr) (((Ext.refl w10).drew).cell cb)
          have s3 := And.intro (hEd.cell cr) (hEd.cell cb)
          have HI2 := Lib.hid (inv_new hv HI.out.1 hiL HI.out.2.1 HI.out.2.2.1 Hinv.out hd hd9')
          rw [← hm] at HI2
          clear ht hrl hvm hvl hp1 hp2 hd hm hd9' hm9 hx hy hq hr
          go_wp2_with fail
          go_region_held3 (fun w' => w'.cell? ⟨g9, o9, none⟩ = some (.int .i64 x) ∧ w'.cell? ⟨b2, o2, none⟩ = some (.int .i64 y)) (first | exact s6 | exact s5 | exact s4 | exact s3 | go_keep)
            (first
              | (go_at_call 67; refine Ht.out.mono ?_; rintro e w11 ⟨b11, d11, rfl, hd11, _, hE11⟩; have hV11 := hEd.trans hE11; have s5 := And.intro (hV11.cell cr) (hV11.cell cb); obtain ⟨s11, n11, c11, rfl⟩ := row_shape hd11.row; have hfd := field_w b11 s11 n11 c11; have HQ11 : OwnD g w11 g la qs := OwnV.ext HQ10.out hV11; have hcq := OwnD.cell HQ11 (j := i) hiq; have hfq := OwnV.frozen HQ11 i; obtain ⟨hQs, hGs⟩ := OwnD.set HQ11 i d; rw [← Hq.out] at hQs hGs; have s6 := And.intro (grown_frozen_cell hGs hg9 s5.1) (grown_frozen_cell hGs hg2 s5.2)))
          have HQ2 := Lib.hid hQs
          have HR2 := Lib.hid (hd11.other hGs)
          have hE2 := Lib.hid (ext_trans_grown (hE1.trans hV11) hGs (by rw [Hg.out]; exact Nat.le_refl _))
          clear hQs hGs s3 s4 s5 s6 hcq hfq HQ11 hd11 hV11 hE11 cr cb
          go_wp2_with fail
          go_roundw
          case rel => exact ⟨i, _, m, by omega, by go_num, HI2, HQ2, HR2, hE2.out⟩
          case measure => simp [intOf] <;> omega
        · have h1i : ¬ (nR : Int) = 1 := by omega
          have h1b : ((nR : Int) == 1) = false := beq_eq_false_iff_ne.2 h1i
          go_wp2_with fail
          go_loopw [7, 8] (fun low high wr => ∃ lo hi : Nat, low = .int .i64 lo ∧ high = .int .i64 hi ∧ Hid (v * lo ≤ R' ∧ R' < v * hi) ∧ lo < hi ∧ hi ≤ 1000000000 ∧ Ext w10 wr) (fun low high _ => (intOf high).toNat - (intOf low).toNat)
          case atStart => exact ⟨0, 1000000000, by go_num, by go_num, Lib.hid ⟨by omega, by have := HRb.out; rw [Nat.mul_comm]; exact this⟩, by omega, by omega, Ext.refl _⟩
          case round =>
            obtain ⟨lo, hi, rfl, rfl, Hlh, hlh, hh9, hE2⟩ := hrel
            generalize wr = Y at *
            by_cases hgt : 1 < hi - lo
            · have hgi : (1 : Int) < (hi : Int) - (lo : Int) := by omega
              obtain ⟨md, hmd⟩ : ∃ md, md = (lo + hi) / 2 := ⟨_, rfl⟩
              have hm1 : lo < md ∧ md < hi := by omega
              have hmI : ((lo : Int) + (hi : Int)) / 2 = (md : Int) := by omega
              have hti := Lib.hid (times_w (HB10.out.ext hE2) (d := md) (by omega) (by rw [← Hb.out]; omega))
              have hvl : (pc (v * md)).length ≤ 1000000000 := by
                refine Nat.le_trans (pc_mul v md) ?_
                have : (pc md).length ≤ 1 := pc_length_le (k := 1) (by simp; omega)
                have := Hb.out
                omega
              have hab := Lib.hid (fun (V : World) (hV : Ext Y V) (vx : Value) (hx : DgR V vx (pc (v * md))) => above_w hx ((Hd10.out.ext (hE2.trans hV)).dg) (Nat.le_trans hvl (show 1000000000 ≤ 1000000000000 by omega)) (Nat.le_trans HR'l.out (show 100000001 ≤ 1000000000000 by omega)))
              clear hmd hvl
              by_cases hle : v * md ≤ R'
              · have hc2 : cmpN (v * md) R' ≤ 0 := by unfold cmpN; split; omega; rw [if_neg (by omega)]; omega
                have Hlh2 := Lib.hid (show v * md ≤ R' ∧ R' < v * hi from ⟨hle, Hlh.out.2⟩)
                generalize cmpN (v * md) R' = cz2 at *
                have hc3 : decide (cz2 ≤ 0) = true := decide_eq_true hc2
                clear hle
                go_wp2_with fail
                refine hti.out.mono ?_
                rintro e W1 ⟨v1, rfl, hv1, hE3⟩
                have hab2 := Lib.hid (hab.out W1 hE3 v1 hv1)
                obtain ⟨s1, n1, k1', rfl⟩ := row_shape hv1.row
                clear hv1 hti hab
                go_wp2_with fail
                refine hab2.out.mono ?_
                rintro e W2 ⟨rfl, hE4⟩
                have hE5 := hE2.trans (hE3.trans hE4)
                clear hab2
                go_wp2_with fail
                go_roundw
                case rel => exact ⟨md, hi, rfl, rfl, Hlh2, by omega, hh9, hE5⟩
                case measure => simp [intOf] <;> omega
              · have hc2 : ¬ cmpN (v * md) R' ≤ 0 := by unfold cmpN; rw [if_neg (by omega), if_pos (by omega)]; decide
                have Hlh2 := Lib.hid (show v * lo ≤ R' ∧ R' < v * md from ⟨Hlh.out.1, by omega⟩)
                generalize cmpN (v * md) R' = cz2 at *
                have hc3 : decide (cz2 ≤ 0) = false := decide_eq_false hc2
                clear hle
                go_wp2_with fail
                refine hti.out.mono ?_
                rintro e W1 ⟨v1, rfl, hv1, hE3⟩
                have hab2 := Lib.hid (hab.out W1 hE3 v1 hv1)
                obtain ⟨s1, n1, k1', rfl⟩ := row_shape hv1.row
                clear hv1 hti hab
                go_wp2_with fail
                refine hab2.out.mono ?_
                rintro e W2 ⟨rfl, hE4⟩
                have hE5 := hE2.trans (hE3.trans hE4)
                clear hab2
                go_wp2_with fail
                go_roundw
                case rel => exact ⟨lo, md, rfl, rfl, Hlh2, by omega, by omega, hE5⟩
                case measure => simp [intOf] <;> omega
            · have hgi : ¬ (1 : Int) < (hi : Int) - (lo : Int) := by omega
              have hgd : decide ((1 : Int) < (hi : Int) - (lo : Int)) = false := decide_eq_false hgi
              obtain rfl : hi = lo + 1 := by omega
              have hd : lo = R' / v := by
                refine ((Nat.div_eq_iff hv).2 ?_).symm
                have := Hlh.out
                rw [Nat.mul_add, Nat.mul_one] at this
                rw [Nat.mul_comm lo v]
                omega
              have hm : R' - v * lo = R' % v := by
                have := Nat.div_add_mod R' v
                rw [← hd] at this; omega
              have hti := Lib.hid (times_w (HB10.out.ext hE2) (d := lo) (by omega) (by rw [← Hb.out]; omega))
              have hmi := Lib.hid (fun (V : World) (hV : Ext Y V) (vx : Value) (hx : DgR V vx (pc (v * lo))) => minus_w ((Hd10.out.ext (hE2.trans hV)).dg) hx (pc_small _) (pc_small _) (Nat.le_trans HR'l.out (by omega)) (pc_mono Hlh.out.1) (by rw [vP_pc, vP_pc]; exact Hlh.out.1))
              rw [vP_pc, vP_pc, hm] at hmi
              have HI2 := Lib.hid (inv_new hv HI.out.1 hiL HI.out.2.1 HI.out.2.2.1 Hinv.out hd (by omega))
              have hiq : i < qs.length := by rw [HI.out.1]; exact hiL
              have hE1Y := hE1.trans hE2
              have HQY := Lib.hid (show OwnD g Y g la qs from OwnV.ext HQ10.out hE2)
              have hgY := (OwnV.lt HQY.out).2
              clear hd hm
              go_wp2_with fail
              refine hti.out.mono ?_
              rintro e W1 ⟨v1, rfl, hv1, hE3⟩
              have hmi2 := Lib.hid (hmi.out W1 hE3 v1 hv1)
              obtain ⟨s1, n1, k1', rfl⟩ := row_shape hv1.row
              have hgW1 := hE3.size
              clear hv1 hti hmi
              go_wp2_with fail
              refine hmi2.out.mono ?_
              rintro e W2 ⟨v2, rfl, ⟨p2, hp2, hv2, hl2, hr2⟩, hE4⟩
              have ht := Lib.hid (trim_o (b := false) (hr2.mono (show g + 1 ≤ W1.heap.size by omega)) (by omega) hp2)
              rw [hv2] at ht
              obtain ⟨s2, n2, k2', rfl⟩ := row_shape hr2.row
              clear hr2 hmi2 hp2 hv2
              go_wp2_with fail
              refine ht.out.mono ?_
              rintro e W3 ⟨b3, d3, rfl, hd3, _, hE5⟩
              have hYW := hE3.trans (hE4.trans hE5)
              obtain ⟨s3, n3, k3, rfl⟩ := row_shape hd3.row
              have hfd := field_w b3 s3 n3 k3
              have HQ3 : OwnD g W3 g la qs := OwnV.ext HQY.out hYW
              have hcq := OwnD.cell HQ3 (j := i) hiq
              have hfq := OwnV.frozen HQ3 i
              obtain ⟨hQs, hGs⟩ := OwnD.set HQ3 i lo
              have HQ2 := Lib.hid hQs
              have HR2 := Lib.hid (hd3.other hGs)
              have hE7 := Lib.hid (ext_trans_grown (hE1Y.trans hYW) hGs (by rw [Hg.out]; exact Nat.le_refl _))
              clear hQs hGs HQ3 hd3 ht
              go_wp2_with fail
              go_roundw
              case rel => exact ⟨i, _, _, by omega, by go_num, HI2, HQ2, HR2, hE7.out⟩
              case measure => simp [intOf] <;> omega
end Go.Proofs.YthmhmkkcjlgbjaaGreatDoor
/- hermite: Form -/
namespace Go.Proofs.YthmhmkkcjlgbjaaGreatDoor
open Go.RowKit Go.Sort
theorem echelon_zero {v : Value} {ga : Option Addr} {L cp : Nat} {w : World} (hv : v = .slice ga L cp) : Calls Tryz.prog 47 #[v, .int .i64 0] w fun e w' => e = .returned (.int .i64 0) ∧ w' = w := by
  subst hv
  go_enter Tryz.func47, Tryz.ntmps47
  go_wp2_with fail
  go_loop [5, 14] (fun dn idx => idx = .int .i64 0 ∧ dn = .int .i64 0) (fun _ _ => 0)
  case atStart => exact ⟨rfl, rfl⟩
  case round =>
    obtain ⟨rfl, rfl⟩ := hrel
    go_wp2_with fail
    go_ret
    exact ⟨rfl, rfl⟩
/-- All numbers of a matrix within the limit. -/
def smallM (F : Mx) : Bool := F.all smallB
/-- The result of Form, given the form. -/
def FrmPost (w : World) (F : Mx) (e : Ending) (w' : World) : Prop :=
  (if smallM F then ∃ v, e = .returned (.tuple #[v, .int .i64 0]) ∧ MatO w.heap.size w' v F else e = .returned (.tuple #[.slice none 0 0, .int .i64 4])) ∧ Ext w w'
theorem hnf_nil {M : Mx} (hM : Rect 0 M) : HnfOf 0 M [] := by
  refine ⟨⟨[], fun r hr => by (cases hr), rfl, fun i h => by simp at h, fun i k _ h => by simp at h, fun i h => by simp at h, fun i h => by simp at h, fun i k _ h => by simp at h⟩, fun v hv => by simp [latM] at hv, fun v hv => ?_⟩
  obtain ⟨r, hr, rfl⟩ := List.mem_map.1 hv
  have : r = [] := List.eq_nil_of_length_eq_zero (hM r hr)
  subst this
  have e : vr [] = fun _ => 0 := by funext j; simp [vr]
  rw [e]; exact .zero
theorem fRows_get {d : Nat} {ls : List Ln} {i : Nat} (hi : i < d) (hd : d ≤ ls.length) (h : i < (fRows d ls).length) : (fRows d ls)[i] = (ls.getD i default).1 := by
  simp only [fRows, List.getElem_map, List.getElem_take, getD_get (show i < ls.length by omega)]
theorem fRows_getD {d : Nat} {ls : List Ln} {i : Nat} (hi : i < d) (hd : d ≤ ls.length) : (fRows d ls).getD i [] = (ls.getD i default).1 := by
  rw [getD_get (show i < (fRows d ls).length by unfold fRows; simp; omega), fRows_get hi hd]
theorem fRows_length {d : Nat} {ls : List Ln} (hd : d ≤ ls.length) : (fRows d ls).length = d := by unfold fRows; simp; omega
theorem Sl.ext' {w w' : World} {ga : Option Addr} {gb go : Nat} {xs : List Value} (h : Sl w ga gb go xs) (he : Ext w w') : Sl w' ga gb go xs := h.ext he
theorem smallM_not {F : Mx} {i : Nat} (h : i < F.length) (hs : smallB F[i] = false) : smallM F = false := by
  cases hm : smallM F
  · rfl
  · have := List.all_eq_true.1 hm _ (List.getElem_mem h)
    rw [this] at hs; cases hs
theorem smallM_yes {F : Mx} (h : ∀ j (hj : j < F.length), smallB F[j] = true) : smallM F = true := by
  refine List.all_eq_true.2 fun r hr => ?_
  obtain ⟨j, hj, rfl⟩ := List.getElem_of_mem hr
  exact h j hj
theorem take_snocM {F : Mx} {i : Nat} (h : i < F.length) : F.take (i + 1) = F.take i ++ [F[i]] := List.take_succ_eq_append_getElem h
/-- Numbers of a right matrix have 30 digits in base 2. -/
theorem lines0_all {M : Mx} (h : ∀ r ∈ M, ∀ z ∈ r, -1000000000 ≤ z ∧ z ≤ 1000000000) : AllL 30 (lines0 M) := by
  intro i hi
  have hi' : i < M.length := by simpa using hi
  rw [getD_get hi, lines0_get hi']
  constructor
  · intro z hz
    have := h _ (List.getElem_mem hi') z hz
    show z.natAbs < 2 ^ 30
    have e : (2 : Nat) ^ 30 = 1073741824 := by decide
    rw [e]; omega
  · intro z hz
    show z.natAbs < 2 ^ 30
    have e : (2 : Nat) ^ 30 = 1073741824 := by decide
    rw [e]
    unfold unitR at hz
    rcases List.mem_or_eq_of_mem_set hz with hz | rfl
    · rw [List.mem_replicate] at hz; rw [hz.2]; decide
    · decide
def FrmP (w : World) (M : Mx) (e : Ending) (w' : World) : Prop := ∃ F, HnfOf (ncols M) M F ∧ FrmPost w F e w'
set_option maxRecDepth 100000 in
set_option maxHeartbeats 1000000 in
theorem form_any {w : World} {v : Value} {M : Mx} (hM : MatR w v M) (hc : checkM M = 0) (hk : bC M.length 30 (ncols M) + 2 < LIM) (hL : Laid w) :
    Calls Tryz.prog 12 #[v] w (FrmP w M) := by
  obtain ⟨hm12, hn12, hrect, hent⟩ := checkM_ok hc
  have HM := Lib.hid hM
  have HL := Lib.hid hL
  have h64 : ∀ r ∈ M, ∀ z ∈ r, I64 z := fun r hr z hz => by have := hent r hr z hz; unfold I64; omega
  have hck := Lib.hid (tableCheck_any hM)
  rw [hc] at hck
  have Hent := Lib.hid hent
  have Hrect := Lib.hid hrect
  have H64 := Lib.hid h64
  have Hk := Lib.hid hk
  have Hc := Lib.hid hc
  clear hM hL hent hrect h64 hk hc
  go_enter Tryz.func12, Tryz.ntmps12
  go_wp2_with fail
  refine hck.out.mono ?_
  rintro e w1 ⟨rfl, hE1⟩
  clear hck
  have hli := Lib.hid (lines_any (n := ncols M) (HM.out.ext hE1) Hrect.out (by omega) (by omega) H64.out (HL.out.ext hE1))
  go_wp2_with fail
  refine hli.out.mono ?_
  rintro e w2 ⟨v2, ad, rfl, hV, hE2⟩
  clear hli
  have hE12 := hE1.trans hE2
  have hcol := Lib.hid (fun W (hW : Ext w2 W) => columns_any (HM.out.ext (hE12.trans hW)))
  have hsh : ∃ ga cp, v2 = .slice ga M.length cp ∧ M.length ≤ cp ∧ (0 < M.length → ∃ g, ga = some ⟨g, 0, none⟩) := by
    have hr := hV.row
    rw [lines0_length] at hr
    rcases hr.2 with ⟨rfl, h0⟩ | ⟨g, cap, cur, rfl, hb, hg, hn, hm, hs, ht⟩
    · rw [h0]; exact ⟨none, 0, rfl, Nat.le_refl _, fun h => by omega⟩
    · exact ⟨_, cap, rfl, hn, fun _ => ⟨g, rfl⟩⟩
  obtain ⟨ga, cp, rfl, hcp, hgs⟩ := hsh
  have HV := Lib.hid hV
  clear hV
  by_cases hn0 : ncols M = 0
  · rw [hn0] at hcol
    have HF := Lib.hid (hnf_nil (M := M) (by rw [← hn0]; exact Hrect.out))
    rw [← hn0] at HF
    have hcpi : (0 : Int) ≤ (cp : Int) := by omega
    clear hn0
    go_wp2_with fail
    refine (hcol.out _ (Ext.refl _)).mono ?_
    rintro e w3 ⟨rfl, hE3⟩
    go_wp2_with fail
    refine (echelon_zero rfl).mono ?_
    rintro e w4 ⟨rfl, rfl⟩
    go_wp2_with fail
    go_loopw [6, 25] (fun out idx wr => idx = .int .i64 0 ∧ out = .slice none 0 0 ∧ wr = w4) (fun _ _ _ => 0)
    case atStart => exact ⟨rfl, rfl, rfl⟩
    case round =>
      obtain ⟨rfl, rfl, hwr⟩ := hrel
      subst hwr
      go_wp2_with fail
      go_ret2
      refine ⟨[], HF.out, ?_⟩
      exact ⟨by rw [if_pos (show smallM [] = true from rfl)]; exact ⟨_, rfl, MatO.nil _ _⟩, hE12.trans hE3⟩
  · have hnp : 0 < ncols M := by omega
    have hmp : 0 < M.length := by
      rcases Nat.eq_zero_or_pos M.length with h | h
      · have : M = [] := List.eq_nil_of_length_eq_zero h
        rw [this] at hn0; exact absurd rfl hn0
      · exact h
    obtain ⟨g, rfl⟩ := hgs hmp
    have hlns : Lns w1.heap.size w2 g ad (lines0 M) := by
      have := HV.out
      have h2 : LnsV w1.heap.size w2 (slv g (lines0 M).length cp) ad (lines0 M) (ncols M) M.length := by rw [lines0_length]; exact this
      exact h2.lns hnp
    have Hlns := Lib.hid hlns
    have hech := Lib.hid (fun W (hW : Ext w2 W) => echelon_walk (w0 := w1) (w := W) (g := g) (cp := cp) (n := ncols M) (m := M.length) (L := M.length) (k := 30) (by simp) (by omega) hcp (by omega) (by omega) (Hlns.out.ext hW) (lines0_dim Hrect.out) (lines0_all Hent.out) Hk.out (HL.out.ext hE1) (hE2.trans hW))
    clear hlns hgs hn0
    go_wp2_with fail
    refine (hcol.out _ (Ext.refl _)).mono ?_
    rintro e w3 ⟨rfl, hE3⟩
    go_wp2_with fail
    refine (hech.out _ hE3).mono ?_
    rintro e w4 ⟨d, ps, ad', ls', rfl, hL4, hF4, hO4, hA4, hE4⟩
    have HnF := Lib.hid (form_of Hrect.out hO4 hF4)
    have hdl := hF4.le
    have hll : ls'.length = M.length := by rw [hO4.length]; simp
    have Hfl := Lib.hid (fRows_length hdl)
    have Hfg := Lib.hid (fun i (h : i < d) => fRows_getD (ls := ls') h hdl)
    have Hdim := Lib.hid ((lines0_dim Hrect.out).ops hO4)
    have HA4 := Lib.hid hA4
    have Hll := Lib.hid hll
    have hdm : d ≤ M.length := by omega
    have hdc : (d : Int) ≤ (cp : Int) := by omega
    clear hech hcol hO4 hF4 hA4 Hlns HV hdl hll
    obtain ⟨F, hF⟩ : ∃ F, F = fRows d ls' := ⟨_, rfl⟩
    rw [← hF] at HnF Hfl
    rw [← hF] at Hfg
    clear hF
    go_wp2_with fail
    go_loopw [6, 25] (fun out idx wr => ∃ i : Nat, i ≤ d ∧ idx = .int .i64 i ∧ Hid (MatO w4.heap.size wr out (F.take i)) ∧ Hid (∀ j (h : j < F.length), j < i → smallB F[j] = true) ∧ Ext w4 wr) (fun _ idx _ => d - (intOf idx).toNat)
    case atStart => exact ⟨0, by omega, by go_num, Lib.hid (MatO.nil _ _), Lib.hid (fun j _ h => by omega), Ext.refl _⟩
    case round =>
      obtain ⟨i, hi, rfl, hO, Hs, hE5⟩ := hrel
      generalize wr = X at *
      by_cases hlt : i < d
      · have hii : (i : Int) < (d : Int) := by omega
        obtain ⟨gx, cx, gy, cy, ead, c1, c2, cz, o1, o2, _, _, _⟩ := (hL4.ext hE5).ln (d := 0) (c := 0) (i := i) (o := i * 2) Hdim.out (by rw [Hll.out]; omega) (by omega) hnp
        have hrow : (ls'.getD (0 + i) default).1 = F.getD i [] := by rw [Nat.zero_add]; exact (Hfg.out i hlt).symm
        rw [hrow] at o1
        have hlen : (F.getD i []).length = ncols M := by rw [← hrow]; exact (Hdim.out.getD (by rw [Hll.out]; omega)).1
        have hFi : F.getD i [] = F[i]'(by rw [Hfl.out]; exact hlt) := getD_get (by rw [Hfl.out]; exact hlt) []
        have hbig : ∀ z ∈ F.getD i [], nd z ≤ LIM := fun z hz => by
          rw [← hrow] at hz
          have := nd_lt2 ((HA4.out (0 + i) (by rw [Hll.out]; omega)).1 z hz)
          have := Hk.out
          omega
        have hEw4 : Ext w w4 := hE1.trans hE4
        have hsml := Lib.hid (fun W (hW : Ext X W) => hSmall_any (w := W) (cap := cx) (o1.sl.ext' hW) (by rw [hlen]; omega) hbig (HL.out.ext (hEw4.trans (hE5.trans hW))))
        rw [hlen] at hsml
        have hW0 := (Ext.refl X).alloc (.cells #[slv gx (ncols M) cx, slv gy M.length cy] 90)
        have hEwX := hEw4.trans hE5
        have HFi := Lib.hid hFi
        have hXw4 := hE5.size
        clear hrow hlen hFi hbig ead o1 o2 cz
        obtain ⟨r, hr⟩ : ∃ r, r = F.getD i [] := ⟨_, rfl⟩
        rw [← hr] at hsml HFi
        clear hr
        have hpost := hsml
        have HsI := Lib.hid (show i < F.length by rw [Hfl.out]; exact hlt)
        cases hs : smallB r
        · have Hno := Lib.hid (smallM_not HsI.out (by rw [← HFi.out]; exact hs))
          have Hsb := Lib.hid hs
          clear hs hpost
          go_wp2_with fail
          refine (hsml.out _ hW0).mono ?_
          rintro e W ⟨hp, hEW⟩
          rw [if_neg (by rw [Hsb.out]; decide)] at hp
          obtain rfl := hp
          go_wp2_with fail
          go_ret2
          refine ⟨F, HnF.out, ?_⟩
          refine ⟨?_, hEwX.trans (hW0.trans hEW)⟩
          rw [if_neg (by rw [Hno.out]; decide)]; rfl
        · have Hsb := Lib.hid hs
          clear hs hpost
          go_wp2_with fail
          refine (hsml.out _ hW0).mono ?_
          rintro e W ⟨hp, hEW⟩
          rw [if_pos Hsb.out] at hp
          obtain ⟨rv, rfl, hrv⟩ := hp
          have hEXW := hW0.trans hEW
          have hXW := hEXW.size
          have HO2 := Lib.hid (hO.out.ext hEXW)
          have HR2 := Lib.hid ((hrv.v).mono (B' := w4.heap.size) (by simp; omega))
          obtain ⟨gr, cr, rfl, _⟩ := hrv
          have hE5W := Lib.hid (hE5.trans hEXW)
          have hil : (F.take i).length = i := by rw [List.length_take, Hfl.out]; omega
          have Hil := Lib.hid hil
          clear hil hEW hsml hEXW
          go_wp2_with (at_builtin; refine app_mat rfl _ _ rfl rfl (HO2.out.ext ((Ext.refl _).alloc _)) rfl (b := W.heap.size) (by go_simp) (HR2.out.ext ((Ext.refl _).alloc _)) (by rw [Hil.out]; omega) (by simp; omega) ?_; intro gg cap2 w8 hO8 hB8 hG8; rw [Hil.out] at hO8 ⊢)
          rw [← show F.take (i + 1) = F.take i ++ [r] by rw [take_snocM HsI.out, HFi.out]] at hO8
          have hE8 : Ext w4 w8 := Below.trans ((hE5W.out.alloc (.cells #[slv gr r.length cr] 35))) hB8
          clear hG8 hB8
          go_wp2_with fail
          go_roundw
          case rel => exact ⟨i + 1, by omega, by go_num, Lib.hid hO8, Lib.hid (fun j h hj => by
            by_cases e : j = i
            · subst e; rw [← HFi.out]; exact Hsb.out
            · exact Hs.out j h (by omega)), hE8⟩
          case measure => simp [intOf] <;> omega
      · have hid : i = d := by omega
        subst hid
        go_wp2_with fail
        go_ret2
        refine ⟨F, HnF.out, ?_⟩
        have hsm : smallM F = true := smallM_yes (fun j hj => Hs.out j hj (by rw [← Hfl.out]; exact hj))
        refine ⟨?_, (hE1.trans hE4).trans hE5⟩
        rw [if_pos hsm]
        refine ⟨_, rfl, ?_⟩
        have := hO.out
        rw [List.take_of_length_le (by rw [Hfl.out]; exact Nat.le_refl _)] at this
        exact this.mono ((hE1.trans hE4).size)
end Go.Proofs.YthmhmkkcjlgbjaaGreatDoor
