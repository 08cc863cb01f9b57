/- Part 24 of the proof of the claim: contracts of the functions that it reaches, and plain laws; no condition. -/
import Derived.Test.YtokjolmpdfmnbaaGreatDoorU23
import Derived.Test.YtokjolmpdfmnbaaGreatDoorU02
import Derived.BigQuiet
namespace Go.Proofs.YtokjolmpdfmnbaaGreatDoor
open Go.RowKit Go.Sort
theorem Tryz.infoKey : (Tryz.prog.info? 68).map (fun i => (i.zero, i.size, i.bytes)) = some (some (.agg #[.int .i64 0, .int .i64 0]), 2, 16) := by kernel_rfl
def kv (l : List (Int × Int)) : List Value := l.flatMap fun p => [.int .i64 p.1, .int .i64 p.2]
theorem kv_snoc (l : List (Int × Int)) (p : Int × Int) : kv (l ++ [p]) = kv l ++ [.int .i64 p.1, .int .i64 p.2] := by simp [kv]
def KeysV (B : Nat) (w : World) (v : Value) (l : List (Int × Int)) : Prop := w.ownsRow B 68 2 v l.length (kv l)
theorem KeysV.nil (B : Nat) (w : World) : KeysV B w (.slice none 0 0) [] := ⟨rfl, .inl ⟨rfl, rfl⟩⟩
theorem KeysV.ext {B : Nat} {w w' : World} {v : Value} {l : List (Int × Int)} (h : KeysV B w v l) (he : Ext w w') : KeysV B w' v l := ownsRow_ext h he
theorem KeysV.mono {B B' : Nat} {w : World} {v : Value} {l : List (Int × Int)} (h : KeysV B w v l) (hB : B' ≤ B) : KeysV B' w v l := ownsRow_mono h hB
section
variable {w : World} {ops : Array Oper} {rest : List Oper} {o : Oper} {a : Act} {Q : Exit → Act → World → Prop}
theorem app_key (hgd : o.guard = none) (s x : Operand) (ho : o.op = .call { callee := .builtin .append, args := #[s, x], argTypes := #[59, 59] })
    {B : Nat} {v : Value} {r : List (Int × Int)} (hs : a.eval s = v) (hown : KeysV B w v r) {b : Nat} {y z : Int} (hx : a.eval x = .slice (some ⟨b, 0, none⟩) 1 1) (c0 : w.cell? ⟨b, 0, none⟩ = some (.int .i64 y)) (c1 : w.cell? ⟨b, 1, none⟩ = some (.int .i64 z)) (hl : r.length ≤ 1000000000) (hB : B ≤ w.heap.size)
    (h : ∀ g cap w', KeysV B w' (slv g (r.length + 1) cap) (r ++ [(y, z)]) → Below B w w' → w.grownBy w' v.ownBlock → wpList Tryz.prog ops Q rest (a.put o.dst (slv g (r.length + 1) cap)) w') : wpList Tryz.prog ops Q (o :: rest) a w := by
  obtain ⟨i0, hi, hz0, hz1, hz2⟩ := info_parts Tryz.infoKey
  refine wpList_append_lies w hgd s x 59 ho B 68 i0 _ 2 16 Tryz.underlying59 hi hz0 hz1 hz2 rfl (by omega) v r.length (kv r) hs hown ⟨b, 0, none⟩ 1 1 [.int .i64 y, .int .i64 z] hx rfl ?_ ?_ (by omega) (by unfold maxLen; omega) (by omega) hB w.heap.size rfl ?_
  · intro j u hj
    rw [Lib.add_plain, Nat.zero_add]
    match j with
    | 0 => simp at hj; subst hj; exact c0
    | 1 => simp at hj; subst hj; exact c1
    | j + 2 => simp at hj
  · intro u hu
    simp only [List.mem_cons, List.not_mem_nil, or_false] at hu
    rcases hu with rfl | rfl <;> rfl
  · intro g cap w' k1 k2 k3 k4
    refine h g cap w' ?_ (Below.grown (Below.refl _ _) k2 hB (fun q hq => (World.ownsRow.lt hown q hq).1)) k2
    unfold KeysV
    rw [kv_snoc, List.length_append]; exact k1
end
def nbB (h : Bool) (d e : Int) : Bool := (decide (d = 0) != decide (e = 0)) || (h && decide (d * e < 0))
def nbRow (h : Bool) (x y : Int) (e : Int) (t : Nat) : List (Int × Int) := (List.range t).flatMap fun (d : Nat) => if nbB h ((d : Int) - 1) e then [(x + ((d : Int) - 1), y + e)] else []
def nbTo (h : Bool) (x y : Int) (t : Nat) : List (Int × Int) := (List.range t).flatMap fun (e : Nat) => nbRow h x y ((e : Int) - 1) 3
def nbs (h : Bool) (x y : Int) : List (Int × Int) := nbTo h x y 3
theorem nbRow_succ (h : Bool) (x y e : Int) (t : Nat) : nbRow h x y e (t + 1) = nbRow h x y e t ++ (if nbB h ((t : Int) - 1) e then [(x + ((t : Int) - 1), y + e)] else []) := by
  unfold nbRow; rw [List.range_succ, List.flatMap_append]; simp
theorem nbTo_succ (h : Bool) (x y : Int) (t : Nat) : nbTo h x y (t + 1) = nbTo h x y t ++ nbRow h x y ((t : Int) - 1) 3 := by
  unfold nbTo; rw [List.range_succ, List.flatMap_append]; simp
theorem nbRow_le (h : Bool) (x y e : Int) : ∀ t, (nbRow h x y e t).length ≤ t
  | 0 => by simp [nbRow]
  | t + 1 => by
    rw [nbRow_succ, List.length_append]
    have := nbRow_le h x y e t
    split <;> simp <;> omega
theorem nbTo_le (h : Bool) (x y : Int) : ∀ t, (nbTo h x y t).length ≤ 3 * t
  | 0 => by simp [nbTo]
  | t + 1 => by
    rw [nbTo_succ, List.length_append]
    have := nbTo_le h x y t
    have := nbRow_le h x y ((t : Int) - 1) 3
    omega
theorem nbRow_c (h : Bool) (x y e : Int) {d : Int} (hd : -1 ≤ d) : nbRow h x y e (d + 1 + 1).toNat = nbRow h x y e (d + 1).toNat ++ (if nbB h d e then [(x + d, y + e)] else []) := by
  obtain ⟨t, ht⟩ : ∃ t : Nat, d = (t : Int) - 1 := ⟨(d + 1).toNat, by omega⟩
  subst ht
  rw [show ((t : Int) - 1 + 1 + 1).toNat = t + 1 by omega, show ((t : Int) - 1 + 1).toNat = t by omega, nbRow_succ]
theorem nbTo_c (h : Bool) (x y : Int) {c : Int} (hc : -1 ≤ c) : nbTo h x y (c + 1 + 1).toNat = nbTo h x y (c + 1).toNat ++ nbRow h x y c 3 := by
  obtain ⟨t, ht⟩ : ∃ t : Nat, c = (t : Int) - 1 := ⟨(c + 1).toNat, by omega⟩
  subst ht
  rw [show ((t : Int) - 1 + 1 + 1).toNat = t + 1 by omega, show ((t : Int) - 1 + 1).toNat = t by omega, nbTo_succ]
set_option maxRecDepth 100000 in
set_option maxHeartbeats 2000000 in
theorem Neighbours_ok {w : World} {k x y : Int} {h : Bool} (hk : k = 1 ∧ h = false ∨ k = 2 ∧ h = true) (hx : -1000000 ≤ x ∧ x ≤ 1000000) (hy : -1000000 ≤ y ∧ y ≤ 1000000) :
    Calls Tryz.prog 68 #[.int .i64 k, .agg #[.int .i64 x, .int .i64 y]] w fun e w' => (∃ v, e = .returned (.tuple #[v, .int .i64 0]) ∧ KeysV w.heap.size w' v (nbs h x y)) ∧ Ext w w' := by
  obtain ⟨hx1, hx2⟩ := hx
  obtain ⟨hy1, hy2⟩ := hy
  have hfar := Lib.hid (fun W => far_any (w := W) (x := x) (y := y) (by unfold I64; omega) (by unfold I64; omega))
  rw [show (decide (1000000 < max x y) || decide (min x y < -1000000)) = false by simp; omega] at hfar
  have hX : Ext w (w.alloc (.cells #[.int .i64 x, .int .i64 y] 68)) := (Ext.refl w).alloc _
  rcases hk with ⟨rfl, hh⟩ | ⟨rfl, hh⟩
  all_goals
    go_enter Tryz.func68, Tryz.ntmps68
    go_wp2_with fail
    refine (hfar.out _).mono ?_
    rintro e w1 ⟨rfl, hE1⟩
    have d0 := hE1.cell (show (w.alloc (.cells #[.int .i64 x, .int .i64 y] 68)).cell? ⟨w.heap.size, 0, none⟩ = some (.int .i64 x) by go_simp)
    have d1 := hE1.cell (show (w.alloc (.cells #[.int .i64 x, .int .i64 y] 68)).cell? ⟨w.heap.size, 1, none⟩ = some (.int .i64 y) by go_simp)
    have dl := World.block_lt_of_cell? _ _ d0
    have hX1 := hX.trans hE1
    clear hE1 hX hfar
    go_wp2_with fail
    have Hh := Lib.hid hh
    clear hh
    go_loopw [6, 7, 8, 9] (fun out yv xv sv wr => ∃ c : Int, -1 ≤ c ∧ c ≤ 2 ∧ yv = .int .i64 c ∧ Hid (KeysV w1.heap.size wr out (nbTo h x y (c + 1).toNat)) ∧ Ext w1 wr) (fun _ yv _ _ _ => 3 - (intOf yv + 1).toNat)
    case atStart => exact ⟨-1, by omega, by omega, rfl, Lib.hid (KeysV.nil _ _), Ext.refl _⟩
    case round =>
      obtain ⟨c, hc1, hc2, rfl, hO, hE2⟩ := hrel
      generalize wr = Y at *
      by_cases hc3 : c ≤ 1
      · go_wp2_with fail
        go_loopw [6, 8, 9] (fun out xv sv wr => ∃ d : Int, -1 ≤ d ∧ d ≤ 2 ∧ xv = .int .i64 d ∧ Hid (KeysV w1.heap.size wr out (nbTo h x y (c + 1).toNat ++ nbRow h x y c (d + 1).toNat)) ∧ Ext w1 wr) (fun _ xv _ _ => 3 - (intOf xv + 1).toNat)
        case atStart => exact ⟨-1, by omega, by omega, rfl, Lib.hid (by have := hO.out; simpa [nbRow] using this), hE2⟩
        case round =>
          obtain ⟨d, hd1, hd2, rfl, hI, hE3⟩ := hrel
          generalize wr = Z at *
          clear hO
          by_cases hd3 : d ≤ 1
          · obtain ⟨xd, hxd⟩ : ∃ xd, xd = x + d := ⟨_, rfl⟩
            obtain ⟨yc, hyc⟩ : ∃ yc, yc = y + c := ⟨_, rfl⟩
            have Hln := Lib.hid (show (nbTo h x y (c + 1).toNat ++ nbRow h x y c (d + 1).toNat).length ≤ 100 by
              have h1 := nbTo_le h x y (c + 1).toNat
              have h2 := nbRow_le h x y c (d + 1).toNat
              rw [List.length_append]; omega)
            have Hn := Lib.hid (congrArg (fun z => nbTo h x y (c + 1).toNat ++ z) (nbRow_c h x y c hd1))
            simp only [← List.append_assoc] at Hn
            rw [← hxd, ← hyc] at Hn
            obtain ⟨L, hL⟩ : ∃ L, L = nbTo h x y (c + 1).toNat ++ nbRow h x y c (d + 1).toNat := ⟨_, rfl⟩
            rw [← hL] at Hn Hln hI
            clear hL
            have Hxd := Lib.hid hxd
            have Hyc := Lib.hid hyc
            clear hxd hyc
            have c0 := hE3.cell d0
            have c1 := hE3.cell d1
            have hsz := hE3.size
            cases hB : nbB h d c
            · have hB := Lib.hid hB
              rcases (show c = -1 ∨ c = 0 ∨ c = 1 by omega) with rfl | rfl | rfl <;> rcases (show d = -1 ∨ d = 0 ∨ d = 1 by omega) with rfl | rfl | rfl
              all_goals try (exfalso; have := hB.out; rw [Hh.out] at this; revert this; decide)
              all_goals
                clear hc1 hc2 hc3 hd1 hd2 hd3
                have hO8 := hI.out
                have hnn := Hn.out
                rw [hB.out, if_neg (by decide), List.append_nil] at hnn
                rw [← hnn] at hO8
                have HO8 := Lib.hid hO8
                clear hO8 hnn
                go_wp2_with fail
                go_roundw
                case rel => exact ⟨_, by decide, by decide, rfl, HO8, hE3⟩
                case measure => simp [intOf]
            · have hB := Lib.hid hB
              rcases (show c = -1 ∨ c = 0 ∨ c = 1 by omega) with rfl | rfl | rfl <;> rcases (show d = -1 ∨ d = 0 ∨ d = 1 by omega) with rfl | rfl | rfl
              all_goals try (exfalso; have := hB.out; rw [Hh.out] at this; revert this; decide)
              all_goals
                clear hc1 hc2 hc3 hd1 hd2 hd3
                have hnn := Hn.out
                rw [hB.out, if_pos rfl] at hnn
                have Hnn := Lib.hid hnn
                clear hnn
                go_wp2_with (at_builtin; refine app_key rfl _ _ rfl rfl (hI.out.ext ((Ext.refl _).alloc _)) rfl (b := Z.heap.size) (y := xd) (z := yc) (by rw [Hxd.out]; go_simp) (by rw [Hyc.out]; go_simp) (by have := Hln.out; omega) (by simp; omega) ?_; intro gg cap2 w8 hO8 hB8 hG8; rw [← Hnn.out] at hO8; have hE8 := Below.trans (hE3.alloc _) hB8; replace hO8 := Lib.hid hO8; clear hB8 hG8)
                refine ⟨⟨_, by decide, by decide, rfl, hO8, hE8⟩, by simp [intOf]⟩
          · have hde : d = 2 := by omega
            subst hde
            have HO3 := Lib.hid (show KeysV w1.heap.size Z _ (nbTo h x y (c + 1 + 1).toNat) by rw [nbTo_c h x y hc1]; exact hI.out)
            go_wp2_with fail
            go_roundw
            case rel => exact ⟨c + 1, by omega, by omega, by go_num, HO3, hE3⟩
            case measure => simp [intOf] <;> omega
      · have hce : c = 2 := by omega
        subst hce
        have HO3 := Lib.hid (show KeysV w.heap.size Y _ (nbs h x y) from KeysV.mono hO.out hX1.size)
        have HX := Lib.hid (hX1.trans hE2)
        go_wp2_with fail
        go_ret2
        exact ⟨⟨_, rfl, HO3.out⟩, HX.out⟩
end Go.Proofs.YtokjolmpdfmnbaaGreatDoor
namespace Go.Proofs.YtokjolmpdfmnbaaGreatDoor
open Go.RowKit Go.Sort
theorem sam_getD_ext {a b : List Int} (hl : a.length = b.length) (h : ∀ j, j < a.length → a.getD j 0 = b.getD j 0) : a = b := by
  apply List.ext_getElem hl
  intro i h1 h2
  have := h i h1
  rwa [getD_get h1, getD_get h2] at this
set_option maxRecDepth 100000 in
set_option maxHeartbeats 1000000 in
theorem Same_any {w : World} {va vb : Value} {a b : List Int} (hA : RowR w va a) (hB : RowR w vb b) (hbig : a.length ≤ 1000000) :
    Calls Tryz.prog 38 #[va, vb] w fun e w' => e = .returned (.bool (decide (a = b))) ∧ Ext w w' := by
  obtain ⟨sa, ga, oa, ca, rfl, hca, hSa⟩ := hA
  obtain ⟨sb, gb, ob, cb, rfl, hcb, hSb⟩ := hB
  by_cases hl : a.length = b.length
  · obtain ⟨n, hn⟩ : ∃ n, n = a.length := ⟨_, rfl⟩
    rw [← hl]
    rw [← hn] at hbig ⊢
    have HA := Lib.hid hSa
    have HB := Lib.hid hSb
    have Hn := Lib.hid hn
    have Hm := Lib.hid (hn.trans hl)
    clear hSa hSb hl hn hca hcb
    go_enter Tryz.func38, Tryz.ntmps38
    go_wp2_with fail
    go_loopw [5] (fun idx wr => ∃ i : Nat, i ≤ n ∧ idx = .int .i64 i ∧ Hid (∀ j, j < i → a.getD j 0 = b.getD j 0) ∧ Ext w wr) (fun idx _ => n - (intOf idx).toNat)
    case atStart => exact ⟨0, by omega, by go_num, Lib.hid (fun j h => by omega), Ext.refl _⟩
    case round =>
      obtain ⟨i, hi, rfl, Hz, hE⟩ := hrel
      generalize wr = X at *
      by_cases hlt : i < n
      · have hii : (i : Int) < (n : Int) := by omega
        have c1 := (HA.out.ext hE).cell i (.int .i64 (a[i]'(by rw [← Hn.out]; exact hlt))) (is_get (by rw [← Hn.out]; exact hlt))
        have c2 := (HB.out.ext hE).cell i (.int .i64 (b[i]'(by rw [← Hm.out]; exact hlt))) (is_get (by rw [← Hm.out]; exact hlt))
        obtain rfl := HA.out.addr (by rw [is_length, ← Hn.out]; omega)
        obtain rfl := HB.out.addr (by rw [is_length, ← Hm.out]; omega)
        obtain ⟨x, hx⟩ : ∃ x, x = a[i]'(by rw [← Hn.out]; exact hlt) := ⟨_, rfl⟩
        obtain ⟨y, hy⟩ : ∃ y, y = b[i]'(by rw [← Hm.out]; exact hlt) := ⟨_, rfl⟩
        rw [← hx] at c1
        rw [← hy] at c2
        have Hx := Lib.hid (show a.getD i 0 = x by rw [hx, getD_get (by rw [← Hn.out]; exact hlt)])
        have Hy := Lib.hid (show b.getD i 0 = y by rw [hy, getD_get (by rw [← Hm.out]; exact hlt)])
        clear hx hy
        by_cases hxy : x = y
        · subst hxy
          go_wp2_with fail
          go_quiet (fail)
          go_wp2_with fail
          go_roundw
          case rel => exact ⟨i + 1, by omega, by go_num, Lib.hid (fun j hj => by
            by_cases e : j = i
            · subst e; rw [Hx.out, Hy.out]
            · exact Hz.out j (by omega)), hE.drewN _⟩
          case measure => simp [intOf] <;> omega
        · have hb1 : (x == y) = false := beq_eq_false_iff_ne.2 hxy
          have hb2 : (x != y) = true := by simp [bne, hb1]
          have Hne := Lib.hid (show decide (a = b) = false from decide_eq_false (fun e => hxy (by rw [← Hx.out, ← Hy.out, e])))
          go_wp2_with fail
          go_quiet (fail)
          go_wp2_with fail
          go_ret
          exact ⟨by rw [Hne.out]; rfl, hE.drewN _⟩
      · have Heq := Lib.hid (show decide (a = b) = true from decide_eq_true (sam_getD_ext (by rw [← Hn.out, ← Hm.out]) (fun j hj => Hz.out j (by rw [← Hn.out] at hj; omega))))
        go_wp2_with fail
        go_ret
        exact ⟨by rw [Heq.out]; rfl, hE⟩
  · have hne : decide (a = b) = false := decide_eq_false (fun e => hl (by rw [e]))
    rw [hne]
    have h1 : ¬ ((a.length : Int) = (b.length : Int)) := by omega
    have h2 : ((a.length : Int) == (b.length : Int)) = false := beq_eq_false_iff_ne.2 h1
    have h3 : ((a.length : Int) != (b.length : Int)) = true := by simp [bne, h2]
    clear hSa hSb hca hcb hne
    generalize a.length = n at *
    generalize b.length = m at *
    go_enter Tryz.func38, Tryz.ntmps38
    go_wp2_with fail
    go_ret
    exact ⟨rfl, Ext.refl _⟩
end Go.Proofs.YtokjolmpdfmnbaaGreatDoor
namespace Go.Proofs.YtokjolmpdfmnbaaGreatDoor
open Go.RowKit Go.Sort
set_option maxRecDepth 100000 in
set_option maxHeartbeats 1000000 in
theorem SlEq_any {w : World} {va vb : Value} {a b : List Int} (hA : RowR w va a) (hB : RowR w vb b) (hbig : a.length ≤ 1000000) :
    Calls Tryz.prog 122 #[va, vb] w fun e w' => e = .returned (.bool (decide (a = b))) ∧ Ext w w' := by
  obtain ⟨sa, ga, oa, ca, rfl, hca, hSa⟩ := hA
  obtain ⟨sb, gb, ob, cb, rfl, hcb, hSb⟩ := hB
  by_cases hl : a.length = b.length
  · obtain ⟨n, hn⟩ : ∃ n, n = a.length := ⟨_, rfl⟩
    rw [← hl]
    rw [← hn] at hbig ⊢
    have HA := Lib.hid hSa
    have HB := Lib.hid hSb
    have Hn := Lib.hid hn
    have Hm := Lib.hid (hn.trans hl)
    clear hSa hSb hl hn hca hcb
    go_enter Tryz.func122, Tryz.ntmps122
    go_wp2_with fail
    go_loopw [13] (fun idx wr => ∃ i : Nat, i ≤ n ∧ idx = .int .i64 i ∧ Hid (∀ j, j < i → a.getD j 0 = b.getD j 0) ∧ Ext w wr) (fun idx _ => n - (intOf idx).toNat)
    case atStart => exact ⟨0, by omega, by go_num, Lib.hid (fun j h => by omega), Ext.refl _⟩
    case round =>
      obtain ⟨i, hi, rfl, Hz, hE⟩ := hrel
      generalize wr = X at *
      by_cases hlt : i < n
      · have hii : (i : Int) < (n : Int) := by omega
        have c1 := (HA.out.ext hE).cell i (.int .i64 (a[i]'(by rw [← Hn.out]; exact hlt))) (is_get (by rw [← Hn.out]; exact hlt))
        have c2 := (HB.out.ext hE).cell i (.int .i64 (b[i]'(by rw [← Hm.out]; exact hlt))) (is_get (by rw [← Hm.out]; exact hlt))
        obtain rfl := HA.out.addr (by rw [is_length, ← Hn.out]; omega)
        obtain rfl := HB.out.addr (by rw [is_length, ← Hm.out]; omega)
        obtain ⟨x, hx⟩ : ∃ x, x = a[i]'(by rw [← Hn.out]; exact hlt) := ⟨_, rfl⟩
        obtain ⟨y, hy⟩ : ∃ y, y = b[i]'(by rw [← Hm.out]; exact hlt) := ⟨_, rfl⟩
        rw [← hx] at c1
        rw [← hy] at c2
        have Hx := Lib.hid (show a.getD i 0 = x by rw [hx, getD_get (by rw [← Hn.out]; exact hlt)])
        have Hy := Lib.hid (show b.getD i 0 = y by rw [hy, getD_get (by rw [← Hm.out]; exact hlt)])
        clear hx hy
        by_cases hxy : x = y
        · subst hxy
          go_wp2_with fail
          go_quiet (fail)
          go_wp2_with fail
          go_roundw
          case rel => exact ⟨i + 1, by omega, by go_num, Lib.hid (fun j hj => by
            by_cases e : j = i
            · subst e; rw [Hx.out, Hy.out]
            · exact Hz.out j (by omega)), hE.drewN _⟩
          case measure => simp [intOf] <;> omega
        · have hb1 : (x == y) = false := beq_eq_false_iff_ne.2 hxy
          have hb2 : (x != y) = true := by simp [bne, hb1]
          have Hne := Lib.hid (show decide (a = b) = false from decide_eq_false (fun e => hxy (by rw [← Hx.out, ← Hy.out, e])))
          go_wp2_with fail
          go_quiet (fail)
          go_wp2_with fail
          go_ret
          exact ⟨by rw [Hne.out]; rfl, hE.drewN _⟩
      · have Heq := Lib.hid (show decide (a = b) = true from decide_eq_true (sam_getD_ext (by rw [← Hn.out, ← Hm.out]) (fun j hj => Hz.out j (by rw [← Hn.out] at hj; omega))))
        go_wp2_with fail
        go_ret
        exact ⟨by rw [Heq.out]; rfl, hE⟩
  · have hne : decide (a = b) = false := decide_eq_false (fun e => hl (by rw [e]))
    rw [hne]
    have h1 : ¬ ((a.length : Int) = (b.length : Int)) := by omega
    have h2 : ((a.length : Int) == (b.length : Int)) = false := beq_eq_false_iff_ne.2 h1
    have h3 : ((a.length : Int) != (b.length : Int)) = true := by simp [bne, h2]
    clear hSa hSb hca hcb hne
    generalize a.length = n at *
    generalize b.length = m at *
    go_enter Tryz.func122, Tryz.ntmps122
    go_wp2_with fail
    go_ret
    exact ⟨rfl, Ext.refl _⟩
theorem rowEqual_any {w : World} {va vb : Value} {a b : List Int} (hA : RowR w va a) (hB : RowR w vb b) (hbig : a.length ≤ 1000000) :
    Calls Tryz.prog 72 #[va, vb] w fun e w' => e = .returned (.bool (decide (a = b))) ∧ Ext w w' := by
  have h := Lib.hid (SlEq_any hA hB hbig)
  clear hA hB
  go_enter Tryz.func72, Tryz.ntmps72
  go_wp2_with fail
  refine h.out.mono ?_
  rintro e w1 ⟨rfl, hE⟩
  go_wp2_with fail
  go_ret
  exact ⟨rfl, hE⟩
end Go.Proofs.YtokjolmpdfmnbaaGreatDoor
namespace Go.Proofs.YtokjolmpdfmnbaaGreatDoor
open Go.RowKit Go.Sort
theorem WinR.ext {w w' : World} {g L m : Nat} {o r u : List Int} (h : WinR w g L m o r u) (he : Ext w w') : WinR w' g L m o r u := fun y hy => by
  obtain ⟨gy, cy, h1, h2⟩ := h y hy
  exact ⟨gy, cy, he.cell h1, fun c hc => by
    obtain ⟨sr, nr, cr, h3, h4⟩ := h2 c hc
    exact ⟨sr, nr, cr, he.cell h3, h4.ext he⟩⟩
theorem rep_any (w : World) (c : Nat) (hc : c ≤ 100000) : Calls Tryz.prog 74 #[.string ⟨#[32]⟩, .int .i64 c] w fun e w' => e = .returned (.string (spc c)) ∧ Ext w w' :=
  Tryz.strings_Repeat ⟨#[32]⟩ c w (by omega) (by show 1 * c ≤ _; omega)
theorem StrO.sh {w : World} {B L : Nat} {v : Value} {xs : List ByteArray} (h : StrO B w v xs) (hL : xs.length = L) (h0 : 0 < L) : ∃ g cap, v = slv g L cap := by
  subst hL
  obtain ⟨g, cap, e, _⟩ := h.shape h0
  exact ⟨g, cap, e⟩
theorem joinS_any {w : World} {B L g cap : Nat} {xs : List ByteArray} (h : StrO B w (slv g L cap) xs) (hL : xs.length = L) (h0 : 0 < L) (h1 : L ≤ 1000) (hj : (Lib.join (xs.map (·.data.toList)) [32]).length ≤ 1000000) :
    Calls Tryz.prog 75 #[slv g L cap, .string ⟨#[32]⟩] w fun e w' => e = .returned (.string (joinS xs)) ∧ Ext w w' := by
  subst hL
  obtain ⟨g', cap', e, hc, hg, hx⟩ := h.shape h0
  injection e with e1 e2 e3
  injection e1 with e1
  injection e1 with e1
  subst e1 e3
  exact Tryz.strings_Join g 0 cap xs ⟨#[32]⟩ w hx hg (by omega) hc (by show (Lib.join _ [32]).length ≤ _; omega)
def PicPost (B m n : Nat) (k : Int) (ns : List Nm) (o r u : List Int) (e : Ending) (w' : World) : Prop :=
  (picE n ns ≠ 0 ∧ e = .returned (.tuple #[.slice none 0 0, .int .i64 (picE n ns)]))
  ∨ (picE n ns = 0 ∧ ¬ AllG m o r u ∧ e = .returned (.tuple #[.slice none 0 0, .int .i64 4]))
  ∨ (picE n ns = 0 ∧ AllG m o r u ∧ ∃ v, e = .returned (.tuple #[v, .int .i64 0]) ∧ StrO B w' v (picTo k (wdT ns 1) ns m o r u (2 * m + 1)))
set_option maxRecDepth 100000 in
theorem Picture_rng {w : World} {k : Int} {n co cr cu : Nat} {so sr su : Option Addr} {o r u : List Int} {M : Int} {vn : Value} (h : LayG w k n so co sr cr su cu o r u) (hm : winE M = 3) :
    Calls Tryz.prog 28 #[layg k n so co sr cr su cu, .int .i64 M, vn] w fun e w' => e = .returned (.tuple #[.slice none 0 0, .int .i64 3]) ∧ Ext w w' := by
  have hck := Lib.hid (fun W (hW : Ext w W) => lcheck_g (h.ext hW))
  have hwn := Lib.hid (fun W => window_any M W)
  rw [hm] at hwn
  have hX : Ext w (w.alloc (.cells #[.int .i64 k, .slice so n co, .slice sr n cr, .slice su n cu] 54)) := (Ext.refl w).alloc _
  clear h hm
  go_enter Tryz.func28, Tryz.ntmps28
  go_wp2_with fail
  refine (hck.out _ hX).mono ?_
  rintro e w1 ⟨rfl, hE1⟩
  have hX1 := hX.trans hE1
  go_wp2_with fail
  refine (hwn.out _).mono ?_
  rintro e w2 ⟨rfl, hE2⟩
  have hX2 := hX1.trans hE2
  go_wp2_with fail
  go_ret2
  exact ⟨rfl, hX2⟩
set_option maxRecDepth 100000 in
set_option maxHeartbeats 4000000 in
theorem Picture_g {w : World} {k : Int} {n co cr cu m : Nat} {so sr su : Option Addr} {o r u : List Int} {vn : Value} {ns : List Nm} (h : LayG w k n so co sr cr su cu o r u) (hm : m ≤ 20) (hN : NamesR w vn ns) (hl : ns.length ≤ 1000) (hs : ∀ p ∈ ns, p.1.size ≤ 1000) :
    Calls Tryz.prog 28 #[layg k n so co sr cr su cu, .int .i64 m, vn] w fun e w' => PicPost w.heap.size m n k ns o r u e w' ∧ Ext w w' := by
  have hck := Lib.hid (fun W (hW : Ext w W) => lcheck_g (h.ext hW))
  have hwn := Lib.hid (fun W => window_any (m : Int) W)
  rw [show winE (m : Int) = 0 by unfold winE; rw [if_neg (by omega)]] at hwn
  have hsz := Lib.hid (fun W (sq : Option Addr) (nq cq : Nat) (q : List Int) (hW : Ext w W) (hq : RowR W (.slice sq nq cq) q) => lsized_g (h.ext hW) hq)
  have hwi := Lib.hid (fun W (hW : Ext w W) => Window_g (h.ext hW) hm)
  obtain ⟨sn, gn, on, cn, rfl, hsn, hcn⟩ := hN.sl
  obtain ⟨nn, hnn⟩ : ∃ nn, nn = ns.length := ⟨_, rfl⟩
  rw [← hnn] at hl hsn ⊢
  have Hnn := Lib.hid hnn
  have HCn := Lib.hid hcn
  have Hs := Lib.hid hs
  have hn12 := h.n12
  obtain ⟨M, hM⟩ : ∃ M : Int, M = (m : Int) := ⟨_, rfl⟩
  have hM1 : 0 ≤ M := by omega
  have hM2 : M ≤ 20 := by omega
  rw [← hM] at hwn hwi ⊢
  have HM := Lib.hid hM
  obtain ⟨L, hL⟩ : ∃ L, L = 2 * m + 1 := ⟨_, rfl⟩
  have HL := Lib.hid hL
  have hL1 : 0 < L := by omega
  have hL2 : L ≤ 41 := by omega
  have hX : Ext w (w.alloc (.cells #[.int .i64 k, .slice so n co, .slice sr n cr, .slice su n cu] 54)) := (Ext.refl w).alloc _
  have hb := layCg_new w k n so co sr cr su cu
  obtain ⟨b, hbb⟩ : ∃ b, b = w.heap.size := ⟨_, rfl⟩
  clear h hm hM hN hcn hs hnn hL
  go_enter Tryz.func28, Tryz.ntmps28
  go_wp2_with fail
  refine (hck.out _ hX).mono ?_
  rintro e w1 ⟨rfl, hE1⟩
  have hb1 := hb.ext hE1
  have hX1 := hX.trans hE1
  clear hE1 hck hX hb
  go_wp2_with fail
  refine (hwn.out _).mono ?_
  rintro e w2 ⟨rfl, hE2⟩
  have hb2 := Lib.hid (hb1.ext hE2)
  have hX2 := hX1.trans hE2
  rw [← hbb] at hb2
  clear hE2 hwn hX1 hb1
  rw [← hbb]
  clear hbb
  go_wp2_with fail
  go_loopw [10, 12, 13, 37] (fun wv sv ev idx wr => ∃ (i a : Nat), i ≤ nn ∧ idx = .int .i64 i ∧ wv = .int .i64 a ∧ a ≤ 1000 ∧ Hid (picE n ns = picE n (ns.drop i)) ∧ Hid (wdT ns 1 = wdT (ns.drop i) a) ∧ Ext w2 wr) (fun _ _ _ idx _ => nn - (intOf idx).toNat)
  case atStart => exact ⟨0, 1, by omega, by go_num, by go_num, by omega, Lib.hid rfl, Lib.hid rfl, Ext.refl _⟩
  case round =>
    obtain ⟨i, a, hi, rfl, rfl, ha, HE, HW, hE3⟩ := hrel
    generalize wr = X at *
    by_cases hlt : i < nn
    · have hii : (i : Int) < (nn : Int) := by omega
      obtain rfl := hsn (by omega)
      obtain ⟨d0, sr, nr, cr, d1, hR⟩ := HCn.out i (by rw [← Hnn.out]; exact hlt)
      have hX3 := hX2.trans hE3
      have c0 := hX3.cell d0
      have c1 := hX3.cell d1
      have hlt2 : i < ns.length := by rw [← Hnn.out]; exact hlt
      have Hne := Lib.hid (fun h0 h1 => picE_next (n := n) hlt2 h0 h1)
      have Hem := Lib.hid (fun h0 => picE_empty (n := n) hlt2 h0)
      have Hro := Lib.hid (fun h0 h1 => picE_row (n := n) hlt2 h0 h1)
      have Hwd := Lib.hid (wdT_drop (a := a) hlt2)
      have hss := Hs.out _ (List.getElem_mem hlt2)
      generalize ns[i].1 = s at *
      generalize ns[i].2 = q at *
      obtain ⟨e0, e1, e2, e3⟩ := hb2.out.ext hE3
      have dl := World.block_lt_of_cell? _ _ e0
      have hX4 : Ext w (X.alloc (.cells #[.string s, .slice sr nr cr] 80)) := hX3.alloc _
      have hE4 : Ext w2 (X.alloc (.cells #[.string s, .slice sr nr cr] 80)) := hE3.alloc _
      have j0 : (X.alloc (.cells #[.string s, .slice sr nr cr] 80)).cell? ⟨X.heap.size, 0, none⟩ = some (.string s) := by go_simp
      clear hlt2 hsn d0 d1
      by_cases h0 : s.size = 0
      · have hse : s = ⟨#[]⟩ := by
          apply ByteArray.ext
          exact Array.eq_empty_of_size_eq_zero h0
        have HP := Lib.hid (show picE n ns = 13 by rw [HE.out, Hem.out h0])
        subst hse
        clear Hne Hem Hro Hwd HE HW hR h0 hss
        go_wp2_with fail
        go_ret2
        exact ⟨.inl ⟨by rw [HP.out]; decide, by rw [HP.out]; rfl⟩, hX4⟩
      · have hse : ¬ s = ⟨#[]⟩ := fun e => h0 (by rw [e]; rfl)
        have hse2 : s.toList.isEmpty = false := by rw [← decide_eq_emptyBytes]; exact decide_eq_false (fun e => h0 (by rw [e]; rfl))
        have hsz4 := hsz.out _ sr nr cr q hX4 (hR.ext hX4)
        obtain ⟨z, hz⟩ : ∃ z, z = rowE n q := ⟨_, rfl⟩
        rw [← hz] at hsz4
        have Hz := Lib.hid hz
        have Hsz4 := Lib.hid hsz4
        have H0 := Lib.hid h0
        clear hsz4 hz h0 hse hR
        by_cases hz0 : z = 0
        · subst hz0
          have HE2 := Lib.hid (HE.out.trans (Hne.out H0.out Hz.out.symm))
          obtain ⟨a2, ha2⟩ : ∃ a2, a2 = max a s.size := ⟨_, rfl⟩
          have HW2 := Lib.hid (HW.out.trans (by rw [Hwd.out, ← ha2]))
          have hm2 : max (a : Int) (s.size : Int) = (a2 : Int) := by rw [ha2]; omega
          have hm3 : a2 ≤ 1000 := by rw [ha2]; omega
          clear Hne Hem Hro Hwd HE HW ha2
          go_wp2_with fail
          refine Hsz4.out.mono ?_
          rintro e w5 ⟨rfl, hE5⟩
          have k0 := hE5.cell j0
          have hE6 := hE4.trans hE5
          clear Hsz4 j0
          go_wp2_with fail
          go_roundw
          case rel => exact ⟨i + 1, a2, by omega, by go_num, by go_num, hm3, HE2, HW2, hE6⟩
          case measure => simp [intOf] <;> omega
        · have HP := Lib.hid (show picE n ns = z by rw [HE.out, Hro.out H0.out (by rw [← Hz.out]; exact hz0), ← Hz.out])
          have h2 : (z == 0) = false := beq_eq_false_iff_ne.2 hz0
          have h3 : (z != 0) = true := by simp [bne, h2]
          have Hz0 := Lib.hid hz0
          clear Hne Hem Hro Hwd HE HW Hz
          go_wp2_with fail
          refine Hsz4.out.mono ?_
          rintro e w5 ⟨rfl, hE5⟩
          have hX6 := hX4.trans hE5
          clear Hsz4 j0
          go_wp2_with fail
          go_ret2
          exact ⟨.inl ⟨by rw [HP.out]; exact Hz0.out, by rw [HP.out]; rfl⟩, hX6⟩
    · have hii : ¬ (i : Int) < (nn : Int) := by omega
      have HP := Lib.hid (show picE n ns = 0 by rw [HE.out, List.drop_of_length_le (by rw [← Hnn.out]; omega)]; rfl)
      have HWd := Lib.hid (show wdT ns 1 = a by rw [HW.out, List.drop_of_length_le (by rw [← Hnn.out]; omega)]; rfl)
      have Hnl := Lib.hid (show ∀ q, (nameOf q ns).size ≤ a from fun q => by rw [← HWd.out]; exact nameOf_le (wdT_ge (ns := ns) (a := 1)).1 (wdT_ge (ns := ns) (a := 1)).2)
      have Hjl := Lib.hid (show ∀ y, (Lib.join ((picRow a ns m y o r u L).map (·.data.toList)) [32]).length ≤ 1000000 from fun y => by
        have h1 := picRow_join (m := m) (y := y) (o := o) (r := r) (u := u) (t := L) Hnl.out
        have h2 : (a + 1) * L ≤ 1001 * 41 := Nat.mul_le_mul (by omega) (by omega)
        omega)
      have Hnr := Lib.hid (picE_all HP.out)
      have hX3 := hX2.trans hE3
      have hwX := hwi.out X hX3
      obtain ⟨e0, e1, e2, e3⟩ := hb2.out.ext hE3
      have hhb := Lib.hid (hb2.out.ext hE3)
      clear HE HW hsz hwi hb2
      go_wp2_with fail
      refine hwX.mono ?_
      rintro e w3 ⟨hp, hE4⟩
      have hb3 := Lib.hid (hhb.out.ext hE4)
      have hX4 := hX3.trans hE4
      clear hhb hwX e0 e1 e2 e3
      rcases hp with ⟨hall, v, rfl, hB⟩ | ⟨hall, rfl⟩
      case inr =>
        have Ha := Lib.hid hall
        clear hall
        go_wp2_with fail
        go_ret2
        exact ⟨.inr (.inl ⟨HP.out, Ha.out, rfl⟩), hX4⟩
      have Ha := Lib.hid hall
      rw [← HL.out] at hB
      obtain ⟨g, cap, hv⟩ := hB.shape (by rw [winTo_length]; omega)
      rw [winTo_length] at hv
      subst hv
      have HWin := Lib.hid (hB.win HL.out)
      have hs3 := hX4.size
      clear hall hB hE4 hX3 hE3 hX2
      go_wp2_with fail
      go_loopw [16, 68] (fun ov idx wr => ∃ i : Nat, i ≤ L ∧ idx = .int .i64 i ∧ Hid (StrO w3.heap.size wr ov (picTo k a ns m o r u i)) ∧ Ext w3 wr) (fun _ idx _ => L - (intOf idx).toNat)
      case atStart => exact ⟨0, by omega, by go_num, Lib.hid (StrO.nil _ _), Ext.refl _⟩
      case round =>
        obtain ⟨i, hi, rfl, HO, hE3⟩ := hrel
        generalize wr = Y at *
        by_cases hlt : i < L
        · have hii : (i : Int) < (L : Int) := by omega
          obtain ⟨j, hj⟩ : ∃ j, j = L - 1 - i := ⟨_, rfl⟩
          have hw1 : IntKind.i64.wrap ((L : Int) - 1) = (L : Int) - 1 := IntWalk.i64_in _ (by omega)
          have hw2 : IntKind.i64.wrap ((L : Int) - 1 - (i : Int)) = (j : Int) := by rw [IntWalk.i64_in _ (by omega)]; omega
          have hjL : j < L := by omega
          have hjI : (j : Int) < (L : Int) := by omega
          obtain ⟨y, hy⟩ : ∃ y : Int, y = (j : Int) - m := ⟨_, rfl⟩
          have Hy := Lib.hid (show y = (m : Int) - i by have := HL.out; omega)
          obtain ⟨gy, cy, f1, f2⟩ := (HWin.out.ext hE3) j hjL
          rw [← hy] at f2
          have F2 := Lib.hid f2
          clear hj hy f2
          go_wp2_with fail
          go_loopw [18, 80] (fun lv idx wr => ∃ c : Nat, c ≤ L ∧ idx = .int .i64 c ∧ Hid (StrO Y.heap.size wr lv (picRow a ns m y o r u c)) ∧ Ext Y wr) (fun _ idx _ => L - (intOf idx).toNat)
          case atStart => exact ⟨0, by omega, by go_num, Lib.hid (StrO.nil _ _), Ext.refl _⟩
          case round =>
            obtain ⟨c, hc, rfl, HI, hE4⟩ := hrel
            generalize wr = Z at *
            by_cases hlc : c < L
            · have hci : (c : Int) < (L : Int) := by omega
              obtain ⟨sr, nr, cr, f3, f4⟩ := F2.out c hlc
              obtain ⟨q, hq⟩ : ∃ q, q = atL ((c : Int) - m) y o r u := ⟨_, rfl⟩
              rw [← hq] at f4
              have F4 := Lib.hid f4
              have f5 := hE4.cell f3
              have hXZ := hX4.trans (hE3.trans hE4)
              have Hq := Lib.hid hq
              clear f4 hq f3
              go_wp2_with fail
              go_loopw [21, 86] (fun nv idx wr => ∃ (t : Nat) (d : ByteArray), t ≤ nn ∧ idx = .int .i64 t ∧ nv = .string d ∧ Hid (nameOf q ns = nameOf q (ns.drop t)) ∧ Hid (d = ⟨#[46]⟩) ∧ Ext Z wr) (fun _ idx _ => nn - (intOf idx).toNat)
              case atStart => exact ⟨0, ⟨#[46]⟩, by omega, by go_num, rfl, Lib.hid rfl, Lib.hid rfl, Ext.refl _⟩
              case round =>
                obtain ⟨t, d, ht, rfl, rfl, HN, Hd, hE5⟩ := hrel
                generalize wr = V at *
                by_cases hlt : t < nn
                · have htt : (t : Int) < (nn : Int) := by omega
                  obtain rfl := hsn (by omega)
                  obtain ⟨d0, sn, n2, c2, d1, hR⟩ := HCn.out t (by rw [← Hnn.out]; exact hlt)
                  have hXV := hXZ.trans hE5
                  have c0 := hXV.cell d0
                  have c1 := hXV.cell d1
                  have hlt2 : t < ns.length := by rw [← Hnn.out]; exact hlt
                  have hlr := (Hnr.out _ (List.getElem_mem hlt2)).2
                  have Hhit := Lib.hid (fun h0 => nameOf_hit (q := q) hlt2 h0)
                  have Hmis := Lib.hid (fun h0 => nameOf_next (q := q) hlt2 h0)
                  generalize ns[t].1 = s at *
                  generalize ns[t].2 = x at *
                  have hE6 : Ext Z (V.alloc (.cells #[.string s, .slice sn n2 c2] 80)) := hE5.alloc _
                  have hX6 : Ext w (V.alloc (.cells #[.string s, .slice sn n2 c2] 80)) := hXV.alloc _
                  have j0 : (V.alloc (.cells #[.string s, .slice sn n2 c2] 80)).cell? ⟨V.heap.size, 0, none⟩ = some (.string s) := by go_simp
                  have heq := Lib.hid (rowEqual_any (hR.ext hX6) (F4.out.ext (hE4.trans hE6)) (by omega))
                  clear hlt2 d0 d1 hR
                  by_cases hx : x = q
                  · rw [decide_eq_true hx] at heq
                    have HN2 := Lib.hid (HN.out.trans (Hhit.out hx))
                    clear Hhit Hmis HN hx
                    go_wp2_with fail
                    refine heq.out.mono ?_
                    rintro e w5 ⟨rfl, hE7⟩
                    have j1 := hE7.cell j0
                    have hE8 := hE6.trans hE7
                    clear heq j0 hE7 hE6 hE5 c0 c1
                    replace hE5 := hE8
                    have HN := HN2
                    clear hE8 HN2
                    have hz2 : s.size ≤ a := by rw [← HN.out]; exact Hnl.out _
                    obtain ⟨p, hp⟩ : ∃ p, p = a - s.size := ⟨_, rfl⟩
                    have hw3 : IntKind.i64.wrap ((a : Int) - (s.size : Int)) = (p : Int) := by rw [IntWalk.i64_in _ (by omega)]; omega
                    have Hr := Lib.hid (fun W => rep_any W p (by omega))
                    have hcat : ¬ 9223372036854775807 < s.size + (spc p).size := by rw [spc_size]; omega
                    have Hstep := Lib.hid (show picRow a ns m y o r u (c + 1) = picRow a ns m y o r u c ++ [s ++ spc p] by rw [picRow_succ, picCell, ← Hq.out, HN.out, hp])
                    clear hp
                    go_wp2_with fail
                    refine (Hr.out _).mono ?_
                    rintro e w6 ⟨rfl, hE6⟩
                    have HI6 := Lib.hid (HI.out.ext (hE5.trans hE6))
                    have hE7 := hE4.trans (hE5.trans hE6)
                    have hs7 := hE7.size
                    have Hln := Lib.hid (show (picRow a ns m y o r u c).length ≤ 1000 by rw [picRow_length]; omega)
                    clear HI Hr hE6 hE5
                    go_wp2_with (at_builtin; refine app_str rfl _ _ _ Tryz.underlying62 rfl rfl (HI6.out.ext ((Ext.refl _).alloc _)) rfl (b := w6.heap.size) (z := s ++ spc p) (by go_simp) (by have := Hln.out; omega) (by simp; omega) ?_; intro gg cap2 w8 hO8 hB8 hG8; rw [← Hstep.out] at hO8; have hE8 := Below.trans (hE7.alloc _) hB8; replace hO8 := Lib.hid hO8; clear hB8 hG8)
                    refine ⟨⟨c + 1, by omega, by go_num, hO8, hE8⟩, by simp [intOf]; omega⟩
                  · rw [decide_eq_false hx] at heq
                    have HN2 := Lib.hid (HN.out.trans (Hmis.out hx))
                    clear Hhit Hmis HN hx
                    go_wp2_with fail
                    refine heq.out.mono ?_
                    rintro e w5 ⟨rfl, hE7⟩
                    have hE8 := hE6.trans hE7
                    clear heq j0
                    go_wp2_with fail
                    go_roundw
                    case rel => exact ⟨t + 1, d, by omega, by go_num, rfl, HN2, Hd, hE8⟩
                    case measure => simp [intOf] <;> omega
                · have htt : ¬ (t : Int) < (nn : Int) := by omega
                  have HN2 := Lib.hid (show nameOf q ns = d by rw [HN.out, List.drop_of_length_le (by rw [← Hnn.out]; omega), Hd.out]; rfl)
                  clear HN Hd
                  have HN := HN2
                  clear HN2
                  have hz2 : d.size ≤ a := by rw [← HN.out]; exact Hnl.out _
                  obtain ⟨p, hp⟩ : ∃ p, p = a - d.size := ⟨_, rfl⟩
                  have hw3 : IntKind.i64.wrap ((a : Int) - (d.size : Int)) = (p : Int) := by rw [IntWalk.i64_in _ (by omega)]; omega
                  have Hr := Lib.hid (fun W => rep_any W p (by omega))
                  have hcat : ¬ 9223372036854775807 < d.size + (spc p).size := by rw [spc_size]; omega
                  have Hstep := Lib.hid (show picRow a ns m y o r u (c + 1) = picRow a ns m y o r u c ++ [d ++ spc p] by rw [picRow_succ, picCell, ← Hq.out, HN.out, hp])
                  clear hp
                  go_wp2_with fail
                  refine (Hr.out _).mono ?_
                  rintro e w6 ⟨rfl, hE6⟩
                  have HI6 := Lib.hid (HI.out.ext (hE5.trans hE6))
                  have hE7 := hE4.trans (hE5.trans hE6)
                  have hs7 := hE7.size
                  have Hln := Lib.hid (show (picRow a ns m y o r u c).length ≤ 1000 by rw [picRow_length]; omega)
                  clear HI Hr hE6 hE5
                  go_wp2_with (at_builtin; refine app_str rfl _ _ _ Tryz.underlying62 rfl rfl (HI6.out.ext ((Ext.refl _).alloc _)) rfl (b := w6.heap.size) (z := d ++ spc p) (by go_simp) (by have := Hln.out; omega) (by simp; omega) ?_; intro gg cap2 w8 hO8 hB8 hG8; rw [← Hstep.out] at hO8; have hE8 := Below.trans (hE7.alloc _) hB8; replace hO8 := Lib.hid hO8; clear hB8 hG8)
                  refine ⟨⟨c + 1, by omega, by go_num, hO8, hE8⟩, by simp [intOf]; omega⟩
            · have hci : ¬ (c : Int) < (L : Int) := by omega
              have hce : c = L := by omega
              have hT := HI.out
              rw [hce] at hT
              obtain ⟨gl, cl, rfl⟩ := hT.sh (picRow_length _ _ _ _ _ _ _ _) hL1
              obtain ⟨tx, htx⟩ : ∃ tx, tx = joinS (picRow a ns m y o r u L) := ⟨_, rfl⟩
              have Hjn := Lib.hid (fun W (hW : Ext Z W) => joinS_any (hT.ext hW) (picRow_length _ _ _ _ _ _ _ _) hL1 (by omega) (Hjl.out y))
              rw [← htx] at Hjn
              have HO4 := Lib.hid (HO.out.ext hE4)
              have hE34 := hE3.trans hE4
              obtain ⟨e0, e1, e2, e3⟩ := hb3.out.ext hE34
              have htx1 : tx.size ≤ 1000000 := by
                have := Hjl.out y
                rw [htx]
                show (Lib.join _ [32]).toArray.size ≤ _
                simpa using this
              have hcat0 : ¬ 9223372036854775807 < tx.size := by omega
              have hcat1 : ¬ 9223372036854775807 < (spc i).size + tx.size := by rw [spc_size]; omega
              have hcat2 : ¬ 9223372036854775807 < (⟨#[]⟩ : ByteArray).size + tx.size := by show ¬ _ < 0 + tx.size; omega
              have hcat3 : ¬ 9223372036854775807 < 0 + tx.size := by omega
              have Hst := Lib.hid (show picTo k a ns m o r u (i + 1) = picTo k a ns m o r u i ++ [indS k i ++ tx] by rw [picTo_succ, picLine, htx, Hy.out, HL.out])
              clear hT HI HO htx hce hlc
              by_cases hk : k = 2
              · have Hstep := Lib.hid (show picTo k a ns m o r u (i + 1) = picTo k a ns m o r u i ++ [spc i ++ tx] by rw [Hst.out, indS, if_pos hk])
                have Hr := Lib.hid (fun W => rep_any W i (by omega))
                have b1 : (k == 2) = true := by simp [hk]
                have b2 : decide (k = 2) = true := decide_eq_true hk
                clear Hst e1 e2 e3 hk
                go_wp2_with fail
                refine (Hr.out _).mono ?_
                rintro e w5 ⟨rfl, hE5⟩
                have Hj5 := Lib.hid (Hjn.out _ hE5)
                clear Hr e0
                go_wp2_with fail
                refine Hj5.out.mono ?_
                rintro e w6 ⟨rfl, hE6⟩
                clear Hj5 b1 b2
                have HO6 := Lib.hid (HO4.out.ext (Ext.trans hE5 hE6))
                have hE7 := hE34.trans (hE5.trans hE6)
                have hs7 := hE7.size
                have Hln := Lib.hid (show (picTo k a ns m o r u i).length ≤ 1000 by rw [picTo_length]; omega)
                clear HO4 Hjn
                go_wp2_with (at_builtin; refine app_str rfl _ _ _ Tryz.underlying62 rfl rfl (HO6.out.ext ((Ext.refl _).alloc _)) rfl (b := w6.heap.size) (z := spc i ++ tx) (by go_simp) (by have := Hln.out; omega) (by simp; omega) ?_; intro gg cap2 w8 hO8 hB8 hG8; rw [← Hstep.out] at hO8; have hE8 := Below.trans (hE7.alloc _) hB8; replace hO8 := Lib.hid hO8; clear hB8 hG8)
                refine ⟨⟨i + 1, by omega, by go_num, hO8, hE8⟩, by simp [intOf]; omega⟩
              · have Hstep := Lib.hid (show picTo k a ns m o r u (i + 1) = picTo k a ns m o r u i ++ [⟨#[]⟩ ++ tx] by rw [Hst.out, indS, if_neg hk])
                have b1 : (k == 2) = false := beq_eq_false_iff_ne.2 hk
                have b2 : decide (k = 2) = false := decide_eq_false hk
                clear hk
                have hE5 : Ext Z Z := Ext.refl Z
                have Hj5 := Lib.hid (Hjn.out _ hE5)
                clear Hst e1 e2 e3
                go_wp2_with fail
                refine Hj5.out.mono ?_
                rintro e w6 ⟨rfl, hE6⟩
                clear Hj5 b1 b2
                have HO6 := Lib.hid (HO4.out.ext (Ext.trans hE5 hE6))
                have hE7 := hE34.trans (hE5.trans hE6)
                have hs7 := hE7.size
                have Hln := Lib.hid (show (picTo k a ns m o r u i).length ≤ 1000 by rw [picTo_length]; omega)
                clear HO4 Hjn
                go_wp2_with (at_builtin; refine app_str rfl _ _ _ Tryz.underlying62 rfl rfl (HO6.out.ext ((Ext.refl _).alloc _)) rfl (b := w6.heap.size) (z := ⟨#[]⟩ ++ tx) (by go_simp) (by have := Hln.out; omega) (by simp; omega) ?_; intro gg cap2 w8 hO8 hB8 hG8; rw [← Hstep.out] at hO8; have hE8 := Below.trans (hE7.alloc _) hB8; replace hO8 := Lib.hid hO8; clear hB8 hG8)
                refine ⟨⟨i + 1, by omega, by go_num, hO8, hE8⟩, by simp [intOf]; omega⟩
        · have hii : ¬ (i : Int) < (L : Int) := by omega
          have hie : i = L := by omega
          subst hie
          have HT := Lib.hid (HO.out.mono hs3)
          have HX := Lib.hid (hX4.trans hE3)
          go_wp2_with fail
          go_ret2
          exact ⟨.inr (.inr ⟨HP.out, Ha.out, _, rfl, by rw [HWd.out, ← HL.out]; exact HT.out⟩), HX.out⟩
end Go.Proofs.YtokjolmpdfmnbaaGreatDoor
