/- Part 27 of the proof of the claim: contracts of the functions that it reaches, and plain laws; no condition. -/
import Derived.Test.YtjnpakablgommaaGreatDoorV26
import Derived.Test.YtjnpakablgommaaGreatDoorV15
import Derived.Laws.CopyRow
import Derived.Test.YtjnpakablgommaaGreatDoorV12
import Derived.Test.YtjnpakablgommaaGreatDoorV24
import Derived.Deep.CutRange
set_option maxRecDepth 100000
namespace Go.Proofs.YtjnpakablgommaaGreatDoor
open Go.RowKit Go.Sort
def mzS (x : List Int) : Bool := x.all fun z => decide (-1000 ≤ z) && decide (z ≤ 1000)
def mzE (n : Nat) (x : List Int) : Int := if x.length = n then (if mzS x = true then 0 else 4) else 5
theorem mzE_zero {n : Nat} {x : List Int} (h : mzE n x = 0) : x.length = n ∧ ∀ z ∈ x, -1000 ≤ z ∧ z ≤ 1000 := by
 unfold mzE at h
 split at h
 ·rename_i h1
  split at h
  ·rename_i h2
   unfold mzS at h2
   rw [List.all_eq_true] at h2
   exact ⟨h1, fun z hz => by have := h2 z hz; simpa using this⟩
  ·cases h
 ·cases h
set_option maxHeartbeats 4000000 in
theorem mcheckAll1_any {w : World} {vp : Value} {P : List Int} {b : Nat} {vx : Value} {x : List Int} (hP : RowR w vp P) (hp0 : 0 < P.length) (hp4 : P.length ≤ 4) (hpr : ∀ x ∈ P, SmP x) (hinc : ∀ i (h : i + 1 < P.length), P[i]'(by omega) < P[i + 1]) (hb : w.cell? ⟨b, 0, none⟩ = some vx) (hx : RowR w vx x) :
  Calls Tryz.prog 112 #[vp, .slice (some ⟨b, 0, none⟩) 1 1] w fun e w' => e = .returned (.int .i64 (mzE P.length x)) ∧ Ext w w' := by
 have hck := Lib.hid (pCheck_ok hP hp0 (by omega) hpr hinc)
 obtain ⟨sx, gx, ox, cx, rfl, hxc, hSx⟩ := hx
 obtain ⟨sp, gp, op, cp, rfl, hpc, hSp⟩ := hP
 have HSx := Lib.hid hSx
 have hE : mzE P.length x = if x.length = P.length then (if mzS x = true then 0 else 4) else 5 := rfl
 have hS4 := fun j (h : j < x.length) (hz : ¬ (-1000 ≤ x[j] ∧ x[j] ≤ 1000)) => show mzS x = false by
  cases hq : mzS x with
  | false => rfl
  | true =>
   unfold mzS at hq
   rw [List.all_eq_true] at hq
   have := hq x[j] (List.getElem_mem h)
   exact absurd (by simpa using this) hz
 have hS0 := fun (h : ∀ j (h : j < x.length), -1000 ≤ x[j] ∧ x[j] ≤ 1000) => show mzS x = true by
  unfold mzS
  rw [List.all_eq_true]
  intro z hz
  obtain ⟨j, hj, rfl⟩ := List.getElem_of_mem hz
  have := h j hj
  simp [this.1, this.2]
 obtain ⟨n, hn⟩ : ∃ n, n = x.length := ⟨_, rfl⟩
 obtain ⟨q, hq⟩ : ∃ q, q = mzE P.length x := ⟨_, rfl⟩
 rw [← hq] at hE ⊢
 rw [← hn] at hb hE
 clear hSx hSp hpr hinc hp0 hpc hq
 generalize P.length = p at *
 have Hn := Lib.hid hn
 have HE := Lib.hid hE
 have HS4 := Lib.hid hS4
 have HS0 := Lib.hid hS0
 clear hn hE hS4 hS0
 go_enter Tryz.func112, Tryz.ntmps112
 go_wp2_with fail
 refine hck.out.mono ?_
 rintro e X ⟨rfl, hE1⟩
 have yb := hE1.cell hb
 clear hck hb
 by_cases hnp : n = p
 ·subst hnp
  have HE := Lib.hid (show q = if mzS x = true then 0 else 4 by rw [HE.out, if_pos rfl])
  go_wp2_with fail
  go_loopw [4, 17] (fun rv idx wr => ∃ i : Nat, i ≤ 1 ∧ idx = .int .i64 i ∧ rv = .int .i64 0 ∧ Hid (0 < i → q = 0) ∧ Ext X wr) (fun _ idx _ => 1 - (intOf idx).toNat)
  case atStart => exact ⟨0, by omega, by go_num, rfl, Lib.hid (fun h => by omega), Ext.refl _⟩
  case round =>
   obtain ⟨i, hi, rfl, rfl, H0, hE⟩ := hrel
   generalize wr = Y at *
   have yb1 := hE.cell yb
   rcases (show i = 0 ∨ i = 1 by omega) with rfl | rfl
   ·go_wp2_with fail
    go_loopw [4, 28] (fun rv idx wr => ∃ j : Nat, j ≤ n ∧ idx = .int .i64 j ∧ rv = .int .i64 0 ∧ Hid (∀ t (h : t < x.length), t < j → -1000 ≤ x[t] ∧ x[t] ≤ 1000) ∧ Ext Y wr) (fun _ idx _ => n - (intOf idx).toNat)
    case atStart => exact ⟨0, by omega, by go_num, rfl, Lib.hid (fun t _ h => by omega), Ext.refl _⟩
    case round =>
     obtain ⟨j, hj, rfl, rfl, HA, hE2⟩ := hrel
     generalize wr = Z at *
     by_cases hjl : j < n
     ·have hji : (j : Int) < (n : Int) := by omega
      have hjx : j < x.length := by rw [← Hn.out]; exact hjl
      have Hbad := Lib.hid (fun h => show q = 4 by rw [HE.out, HS4.out j hjx h]; rfl)
      have Hok := Lib.hid (fun (h : -1000 ≤ x[j] ∧ x[j] ≤ 1000) t (ht : t < x.length) (htj : t < j + 1) => show -1000 ≤ x[t] ∧ x[t] ≤ 1000 by
       by_cases e : t = j
       ·subst e; exact h
       ·exact HA.out t ht (by omega))
      obtain ⟨z, hz⟩ : ∃ z, z = x[j] := ⟨_, rfl⟩
      have hcz := ((hE1.trans hE).trans hE2).cell (HSx.out.cell j (.int .i64 z) (by rw [hz]; exact is_get hjx))
      obtain rfl := HSx.out.addr (by simp; omega)
      rw [← hz] at Hbad Hok
      have eF := (hE1.trans hE).trans hE2
      clear hz HA
      by_cases hz1 : (1000 : Int) < z
      ·have H4 := Lib.hid (Hbad.out (by omega))
       clear Hbad Hok
       go_wp2_with fail
       go_ret
       exact ⟨ret_val (congrArg (Value.int .i64) H4.out.symm), eF⟩
      ·by_cases hz2 : z < (-1000 : Int)
       ·have H4 := Lib.hid (Hbad.out (by omega))
        clear Hbad Hok
        go_wp2_with fail
        go_ret
        exact ⟨ret_val (congrArg (Value.int .i64) H4.out.symm), eF⟩
       ·have HA := Lib.hid (Hok.out (by omega))
        clear Hbad Hok
        go_wp2_with fail
        go_roundw
        case rel => exact ⟨j + 1, by omega, by go_num, rfl, HA, hE2⟩
        case measure => simp [intOf] <;> omega
     ·obtain rfl : j = n := by omega
      have H0 := Lib.hid (show q = 0 by rw [HE.out, HS0.out (fun t ht => HA.out t ht (by rw [Hn.out]; exact ht))]; rfl)
      clear HA
      go_wp2_with fail
      go_roundw
      case rel => exact ⟨1, by omega, by go_num, rfl, Lib.hid (fun _ => H0.out), hE.trans hE2⟩
      case measure => simp [intOf] <;> omega
   ·have H0 := Lib.hid (H0.out (by omega))
    go_wp2_with fail
    go_ret
    exact ⟨ret_val (congrArg (Value.int .i64) H0.out.symm), hE1.trans hE⟩
 ·have HE := Lib.hid (show q = 5 by rw [HE.out, if_neg hnp])
  have hn1 : ¬ (n : Int) = (p : Int) := by omega
  have hn2 : ((n : Int) == (p : Int)) = false := beq_eq_false_iff_ne.2 hn1
  have hn3 : ((n : Int) != (p : Int)) = true := by simp [bne, hn2]
  go_wp2_with fail
  go_loopw [4, 17] (fun rv idx wr => idx = .int .i64 0 ∧ rv = .int .i64 0 ∧ X = wr) (fun _ _ _ => 0)
  case atStart => exact ⟨by go_num, rfl, rfl⟩
  case round =>
   obtain ⟨rfl, rfl, hwr⟩ := hrel
   subst hwr
   go_wp2_with fail
   go_ret
   exact ⟨ret_val (congrArg (Value.int .i64) HE.out.symm), hE1⟩
theorem mcheck_any {w : World} {vp : Value} {P : List Int} {sx : Option Addr} {n cx : Nat} {x : List Int} (hP : RowR w vp P) (hp0 : 0 < P.length) (hp4 : P.length ≤ 4) (hpr : ∀ x ∈ P, SmP x) (hinc : ∀ i (h : i + 1 < P.length), P[i]'(by omega) < P[i + 1]) (hx : RowR w (.slice sx n cx) x) :
  Calls Tryz.prog 54 #[vp, .slice sx n cx] w fun e w' => e = .returned (.int .i64 (mzE P.length x)) ∧ Ext w w' := by
 have hX := (Ext.refl w).alloc (.cells #[.slice sx n cx] 30)
 have xb : (w.alloc (.cells #[.slice sx n cx] 30)).cell? ⟨w.heap.size, 0, none⟩ = some (.slice sx n cx) := by go_simp
 have hck := Lib.hid (mcheckAll1_any (hP.ext hX) hp0 hp4 hpr hinc xb (hx.ext hX))
 obtain ⟨sp, gp, op, cp, rfl, hpc, hSp⟩ := hP
 generalize mzE P.length x = q at *
 clear hSp hx hpr hinc hpc
 go_enter Tryz.func54, Tryz.ntmps54
 go_wp2_with fail
 refine hck.out.mono ?_
 rintro e X ⟨rfl, hE1⟩
 go_wp2_with fail
 go_ret
 exact ⟨rfl, hX.trans hE1⟩
structure TuV (w : World) (P : List Int) (C M : Mx) (G : List (List Rat)) (sp : Option Addr) (cp : Nat) (sc : Option Addr) (lc cc : Nat) (sm : Option Addr) (lm cm : Nat) (sg : Option Addr) (lg cg : Nat) : Prop where
 tm : TmV w P C M M sp cp sc lc cc sm lm cm
 gn : GnR w (.slice sg lg cg) G
 ln : G.length = M.length
 cl : ∀ l ∈ G, l.length = P.length
 sh : ∀ l ∈ G, ShQ l
abbrev tuS (P : List Int) (sp : Option Addr) (cp : Nat) (sc : Option Addr) (lc cc : Nat) (sm : Option Addr) (lm cm : Nat) (sg : Option Addr) (lg cg : Nat) : Value := .agg #[.slice sp P.length cp, .slice sc lc cc, .slice sm lm cm, .slice sg lg cg]
theorem TuV.ext {w : World} {P : List Int} {C M : Mx} {G : List (List Rat)} {sp : Option Addr} {cp : Nat} {sc : Option Addr} {lc cc : Nat} {sm : Option Addr} {lm cm : Nat} {sg : Option Addr} {lg cg : Nat} {w' : World} (h : TuV w P C M G sp cp sc lc cc sm lm cm sg lg cg) (he : Ext w w') : TuV w' P C M G sp cp sc lc cc sm lm cm sg lg cg := ⟨h.tm.ext he, h.gn.ext he, h.ln, h.cl, h.sh⟩
def TuR (w : World) (t : Value) (P : List Int) (C M : Mx) (G : List (List Rat)) : Prop := ∃ sp cp sc lc cc sm lm cm sg lg cg, t = tuS P sp cp sc lc cc sm lm cm sg lg cg ∧ TuV w P C M G sp cp sc lc cc sm lm cm sg lg cg
theorem TuR.ext {w w' : World} {t : Value} {P : List Int} {C M : Mx} {G : List (List Rat)} (h : TuR w t P C M G) (he : Ext w w') : TuR w' t P C M G := by
 obtain ⟨sp, cp, sc, lc, cc, sm, lm, cm, sg, lg, cg, e, h⟩ := h
 exact ⟨sp, cp, sc, lc, cc, sm, lm, cm, sg, lg, cg, e, h.ext he⟩
theorem MatR.len {w : World} {s : Option Addr} {l c : Nat} {M : Mx} (h : MatR w (.slice s l c) M) : l = M.length := by
 obtain ⟨sa, gb, go, cap, vs, e, _⟩ := h
 injection e with e1 e2 e3
theorem GnR.len {w : World} {s : Option Addr} {l c : Nat} {G : List (List Rat)} (h : GnR w (.slice s l c) G) : l = G.length := by
 obtain ⟨sa, gb, go, cap, vs, e, _⟩ := h
 injection e with e1 e2 e3
theorem TuV.lgl {w : World} {P : List Int} {C M : Mx} {G : List (List Rat)} {sp : Option Addr} {cp : Nat} {sc : Option Addr} {lc cc : Nat} {sm : Option Addr} {lm cm : Nat} {sg : Option Addr} {lg cg : Nat} (h : TuV w P C M G sp cp sc lc cc sm lm cm sg lg cg) : lg = lm := by
 rw [h.gn.len, h.tm.hM.len, h.ln]
theorem TmV.m4 {w : World} {P : List Int} {C M M' : Mx} {sp : Option Addr} {cp : Nat} {sc : Option Addr} {lc cc : Nat} {sm : Option Addr} {lm cm : Nat} (h : TmV w P C M M' sp cp sc lc cc sm lm cm) : M.length ≤ 4 := by
 obtain ⟨psM, hIM⟩ := h.ok.kM.1
 have := isH_len hIM
 have := h.ok.p4
 omega
theorem TmV.pchk {w : World} {P : List Int} {C M M' : Mx} {sp : Option Addr} {cp : Nat} {sc : Option Addr} {lc cc : Nat} {sm : Option Addr} {lm cm : Nat} (h : TmV w P C M M' sp cp sc lc cc sm lm cm) : ∀ W, Ext w W → Calls Tryz.prog 48 #[.slice sp P.length cp] W fun e w' => e = .returned (.int .i64 0) ∧ Ext W w' :=
 fun _ hW => pCheck_ok (h.hP.ext hW) h.ok.p0 (by have := h.ok.p4; omega) h.ok.pr h.ok.inc
theorem TmV.mchk {w : World} {P : List Int} {C M M' : Mx} {sp : Option Addr} {cp : Nat} {sc : Option Addr} {lc cc : Nat} {sm : Option Addr} {lm cm : Nat} {sx : Option Addr} {n cx : Nat} {x : List Int} (h : TmV w P C M M' sp cp sc lc cc sm lm cm) (hx : RowR w (.slice sx n cx) x) : ∀ W, Ext w W → Calls Tryz.prog 54 #[.slice sp P.length cp, .slice sx n cx] W fun e w' => e = .returned (.int .i64 (mzE P.length x)) ∧ Ext W w' :=
 fun _ hW => mcheck_any (h.hP.ext hW) h.ok.p0 h.ok.p4 h.ok.pr h.ok.inc (hx.ext hW)
set_option maxHeartbeats 2000000 in
theorem tuCheck_any {w : World} {P : List Int} {C M : Mx} {G : List (List Rat)} {sp : Option Addr} {cp : Nat} {sc : Option Addr} {lc cc : Nat} {sm : Option Addr} {lm cm : Nat} {sg : Option Addr} {lg cg : Nat} (h : TuV w P C M G sp cp sc lc cc sm lm cm sg lg cg) (hL : Laid w) :
  Calls Tryz.prog 28 #[tuS P sp cp sc lc cc sm lm cm sg lg cg] w fun e w' => e = .returned (.int .i64 0) ∧ Ext w w' := by
 have hlg := h.lgl
 obtain ⟨hT, hG, hln, hcl, hsh⟩ := h
 have hm4 := hT.m4
 have hp4 := hT.ok.p4
 have hck := Lib.hid (fun W (hW : Ext w W) => tCheck_any (hT.ext hW) (hL.ext hW))
 rw [tmE_same] at hck
 have hpc := hT.pchk
 have hal := Lib.hid (fun W (hW : Ext w W) => szall_any (pa := sp) (cp := cp) (fun W2 h2 => hpc W2 (hW.trans h2)) (hG.ext hW) hcl hsh (by omega) (by omega) (hL.ext hW))
 have hX := (Ext.refl w).alloc (.cells #[.slice sp P.length cp, .slice sc lc cc, .slice sm lm cm, .slice sg lg cg] 67)
 have x0 : (w.alloc (.cells #[.slice sp P.length cp, .slice sc lc cc, .slice sm lm cm, .slice sg lg cg] 67)).cell? ⟨w.heap.size, 0, none⟩ = some (.slice sp P.length cp) := by go_simp
 have x1 : (w.alloc (.cells #[.slice sp P.length cp, .slice sc lc cc, .slice sm lm cm, .slice sg lg cg] 67)).cell? ⟨w.heap.size, 1, none⟩ = some (.slice sc lc cc) := by go_simp
 have x2 : (w.alloc (.cells #[.slice sp P.length cp, .slice sc lc cc, .slice sm lm cm, .slice sg lg cg] 67)).cell? ⟨w.heap.size, 2, none⟩ = some (.slice sm lm cm) := by go_simp
 have x3 : (w.alloc (.cells #[.slice sp P.length cp, .slice sc lc cc, .slice sm lm cm, .slice sg lg cg] 67)).cell? ⟨w.heap.size, 3, none⟩ = some (.slice sg lg cg) := by go_simp
 subst hlg
 clear hT hG hln hcl hsh hm4 hp4 hpc hL
 go_enter Tryz.func28, Tryz.ntmps28
 go_wp2_with fail
 refine (hck.out _ hX).mono ?_
 rintro e X ⟨rfl, hE1⟩
 have y0 := hE1.cell x0
 have y2 := hE1.cell x2
 have y3 := hE1.cell x3
 have e1 := hX.trans hE1
 clear hck x0 x1 x2 x3 hX hE1
 go_wp2_with fail
 refine (hal.out _ e1).mono ?_
 rintro e Y ⟨rfl, hE2⟩
 go_wp2_with fail
 go_ret
 exact ⟨rfl, e1.trans hE2⟩
end Go.Proofs.YtjnpakablgommaaGreatDoor
namespace Go.Proofs.YtjnpakablgommaaGreatDoor
theorem run_copy_rowK {P : Program} (w : World) (dT sT ty elem : TypeId) (g o dLen dCap K m : Nat) (a : Addr) (sLen sCap : Nat) (cur : Array Value) (t : TypeId) (cs : List Value)
  (hu : P.underlying dT = some (.slice elem)) (hs : (P.info? elem).map (·.size) = some K)
  (hg : w.heap[g]? = some (.cells cur t (0, 0))) (hm : m = Nat.min sLen dLen) (hn : cs.length = m * K)
  (hsrc : ∀ j v, cs[j]? = some v → w.cell? (a.add j) = some v) (hfit : o + cs.length ≤ cur.size) (h1 : ∀ v ∈ cs, v.oneCell' = true) :
  (Builtin.copy_ #[dT, sT] ty #[.slice (some ⟨g, o, none⟩) dLen dCap, .slice (some a) sLen sCap]).run P w =
   .ok (goInt m) (w.setRow g (cur.toList.take o ++ cs ++ cur.toList.drop (o + cs.length)).toArray) := by
 have hl := run_loadCells_list (P := P) w a cs hsrc
 have hst := run_storeCells_at P g o t cs 0 cur w hg (by simpa using hfit) h1
 cases hq : P.info? elem with
 | none => simp [hq] at hs
 | some i =>
  have hi : i.size = K := by simpa [hq] using hs
  simp [Builtin.copy_, run_underlying hu, Builtin.lenOf, Builtin.firstCells, sizeOf, typeInfo, hq, hi, ← hm, ← hn, hl, hst]
end Go.Proofs.YtjnpakablgommaaGreatDoor
namespace Go.Proofs.YtjnpakablgommaaGreatDoor
open Go.RowKit Go.Sort
def fillQ (r : Rat) (n m : Nat) : List Value := szc (List.replicate n r) ++ List.replicate (2 * (m - n)) (.string ⟨#[]⟩)
theorem szc_append (a b : List Rat) : szc (a ++ b) = szc a ++ szc b := by unfold szc; rw [List.map_append, fl_append]
theorem fillQ_length (r : Rat) {n m : Nat} (h : n ≤ m) : (fillQ r n m).length = 2 * m := by unfold fillQ; rw [List.length_append, szc_length, List.length_replicate, List.length_replicate]; omega
theorem fillQ_all (r : Rat) (m : Nat) : fillQ r m m = szc (List.replicate m r) := by unfold fillQ; simp
theorem fillQ_get (r : Rat) {n m k j : Nat} (hk : k ≤ n) (h : j < 2 * k) : (fillQ r n m)[j]? = (szc (List.replicate k r))[j]? := by
 unfold fillQ
 rw [List.getElem?_append_left (by rw [szc_length, List.length_replicate]; omega), show List.replicate n r = List.replicate k r ++ List.replicate (n - k) r by rw [List.replicate_append_replicate]; congr 1; omega, szc_append, List.getElem?_append_left (by rw [szc_length, List.length_replicate]; omega)]
theorem fillQ_splice (r : Rat) {n m k : Nat} (h : n + k ≤ m) : (fillQ r n m).take (n * 2) ++ szc (List.replicate k r) ++ (fillQ r n m).drop (n * 2 + (szc (List.replicate k r)).length) = fillQ r (n + k) m := by
 unfold fillQ
 rw [List.take_left' (by rw [szc_length, List.length_replicate]; omega), szc_length, List.length_replicate, ← szc_append, List.replicate_append_replicate, List.drop_append, List.drop_of_length_le (by rw [szc_length, List.length_replicate]; omega), List.nil_append, szc_length, List.length_replicate, List.drop_replicate]
 congr 2
 omega
theorem szc_one {u : Value} {l : List Rat} (hu : u ∈ szc l) : u.oneCell' = true := by
 unfold szc fl at hu
 simp only [List.mem_flatMap, List.mem_map] at hu
 obtain ⟨p, ⟨x, hx, rfl⟩, hp⟩ := hu
 simp only [List.mem_cons, List.not_mem_nil, or_false] at hp
 rcases hp with rfl | rfl <;> rfl
set_option maxHeartbeats 1000000 in
theorem repeatQ_any {m : Nat} (hm : m ≤ 1000000) {b o c : Nat} {r : Rat} {w : World} (hc0 : w.cell? ⟨b, o, none⟩ = some (I r.num)) (hc1 : w.cell? ⟨b, o + 1, none⟩ = some (I r.den)) :
    Calls Tryz.prog 143 #[.slice (some ⟨b, o, none⟩) 1 c, .int .i64 m] w fun e w' => ∃ g, e = .returned (slv g m m) ∧ w.heap.size ≤ g ∧ OwnV 81 w.heap.size w' g (2 * m) (szc (List.replicate m r)) ∧ Ext w w' := by
  obtain ⟨i0, hi, hz0, hz1, hz2⟩ := info_parts Tryz.infoRat
  have hmul := Lib.hid (Tryz.bits_Mul 1 m (by omega) (by omega))
  rw [Nat.one_mul, Nat.div_eq_of_lt (by omega), Nat.mod_eq_of_lt (by omega)] at hmul
  go_enter Tryz.func143, Tryz.ntmps143
  go_wp2_with (first
    | (go_at_call 210; refine (hmul.out _).mono ?_; rintro e w1 ⟨rfl, hw⟩; have hw' := hw.symm; clear hw; subst hw')
    | (at_make; refine wpList_make_full _ rfl _ _ 60 rfl w.heap.size 81 i0 (.agg #[.string ⟨#[]⟩, .string ⟨#[]⟩]) 2 Tryz.underlying60 hi hz0 hz1 .i64 .i64 _ _ m rfl rfl (by omega) (by omega) (by rw [hz2]; omega) (by unfold maxLen; omega) (Nat.le_refl _) ?_; intro w1 hown1 hgrow1))
  have he1 := ext_grown hgrow1
  have hfr := frv_made hown1 hm
  have hb1 : w1.heap[w.heap.size]? = some (.cells (fillQ r 0 m).toArray 81 (0, 0)) := by
    have hO : OwnV 81 w.heap.size w1 w.heap.size (2 * m) (fillQ r 0 m) := by
      have h := hfr
      unfold FrV at h
      rw [fl_rep, List.length_replicate, Nat.mul_comm m 2] at h
      have e : fillQ r 0 m = List.replicate (2 * m) (.string ⟨#[]⟩) := by unfold fillQ szc fl; simp
      rw [e]; exact h
    obtain ⟨cur, _, h2, h3, _, h5, h6⟩ := hO.parts
    rw [fillQ_length r (Nat.zero_le m)] at h6
    have : cur = (fillQ r 0 m).toArray := by
      apply Array.ext'
      rw [← h6, List.take_of_length_le (by rw [Array.length_toList, h5]; exact Nat.le_refl _)]
    rw [this] at h2; exact h2
  have hc0' := he1.cell hc0
  have hc1' := he1.cell hc1
  have hlb := World.block_lt_of_cell? _ _ hc0
  have Hb1 := Lib.hid hb1
  have Hfl := Lib.hid (fun n (h : n ≤ m) => fillQ_length r h)
  clear hgrow1 hown1 hb1 hfr
  obtain ⟨g, hg⟩ : ∃ g, g = w.heap.size := ⟨_, rfl⟩
  have Hg := Lib.hid hg
  rw [← hg] at Hb1 hlb ⊢
  clear hg
  have hinfo : (Tryz.prog.info? 81).map (·.size) = some 2 := by rw [hi]; simp [hz1]
  have Hinfo := Lib.hid hinfo
  clear hinfo
  have hrun := run_copy_rowK (P := Tryz.prog) w1 60 60 3 81 g 0 m m 2 (min 1 m) ⟨b, o, none⟩ 1 c (fillQ r 0 m).toArray 81 (szc (List.replicate (min 1 m) r)) Tryz.underlying60 Hinfo.out Hb1.out rfl (by rw [szc_length, List.length_replicate]; omega)
    (fun j v hj => by
      have hj0 : j < 2 * min 1 m := by have := (List.getElem?_eq_some_iff.1 hj).1; rwa [szc_length, List.length_replicate] at this
      have hm1 : min 1 m = 1 := by omega
      rw [hm1] at hj
      rw [Lib.add_plain]
      rcases (show j = 0 ∨ j = 1 by omega) with rfl | rfl
      · have : v = I r.num := by
          have h : (szc (List.replicate 1 r))[0]? = some (I r.num) := rfl
          rw [h] at hj; exact (Option.some.inj hj).symm
        rw [this]; exact hc0'
      · have : v = I r.den := by
          have h : (szc (List.replicate 1 r))[1]? = some (I r.den) := rfl
          rw [h] at hj; exact (Option.some.inj hj).symm
        rw [this]; exact hc1') (by simp only [List.size_toArray, Hfl.out 0 (Nat.zero_le m), szc_length, List.length_replicate]; omega) (fun v hv => szc_one hv)
  have hsp := fillQ_splice r (n := 0) (m := m) (k := min 1 m) (by omega)
  rw [Nat.zero_mul] at hsp
  rw [show ((fillQ r 0 m).toArray.toList.take 0 ++ szc (List.replicate (min 1 m) r) ++ (fillQ r 0 m).toArray.toList.drop (0 + (szc (List.replicate (min 1 m) r)).length)) = fillQ r (0 + min 1 m) m from hsp, Nat.zero_add] at hrun
  have Hrun := Lib.hid hrun
  clear hrun hsp
  go_wp2_with fail
  rw [Hrun.out]
  have he2 : Ext w (w1.setRow g (fillQ r (min 1 m) m).toArray) := below_setRow he1 (by rw [Hg.out]; exact Nat.le_refl _) _
  have hb2 : (w1.setRow g (fillQ r (min 1 m) m).toArray).heap[g]? = some (.cells (fillQ r (min 1 m) m).toArray 81 (0, 0)) := setRow_heap w1 g _ _ 81 _ Hb1.out
  have Hb2 := Lib.hid hb2
  clear Hrun Hb1 hb2
  generalize w1.setRow g (fillQ r (min 1 m) m).toArray = w2 at *
  obtain ⟨q, hq⟩ : ∃ q, q = min 1 m := ⟨_, rfl⟩
  have Hq := Lib.hid hq
  rw [← hq] at Hb2 ⊢
  have hqm : q ≤ m := by omega
  have hq1 : 0 < m → 0 < q := fun h => by omega
  have Hq1 := Lib.hid hq1
  clear hq hq1
  go_wp2_with fail
  go_loopw [8] (fun nn wr => ∃ n : Nat, n ≤ m ∧ nn = .int .i64 n ∧ Hid (0 < m → 0 < n) ∧ Hid (wr.heap[g]? = some (.cells (fillQ r n m).toArray 81 (0, 0))) ∧ Ext w wr) (fun nn _ => m - (intOf nn).toNat)
  case atStart => exact ⟨q, hqm, by go_num, Hq1, Hb2, he2⟩
  case round =>
    obtain ⟨n, hn, rfl, Hn, Hb, hE⟩ := hrel
    generalize wr = X at *
    by_cases hlt : n < m
    · have hni : (n : Int) < (m : Int) := by omega
      have hn0 : 0 < n := Hn.out (by omega)
      obtain ⟨k, hk⟩ : ∃ k, k = min n (m - n) := ⟨_, rfl⟩
      have hk0 : 0 < k := by omega
      have hkm : n + k ≤ m := by omega
      have Hk := Lib.hid hk
      have Hsp := Lib.hid (fillQ_splice r hkm)
      clear hk
      have hmn : ¬ m = n := by omega
      have Hb5 := Lib.hid (show X.drew.heap[g]? = some (.cells (fillQ r n m).toArray 81 (0, 0)) from Hb.out)
      have hE6 := hE.drew
      have hrun := run_copy_rowK (P := Tryz.prog) X.drew 60 60 3 81 g (n * 2) (m - n) (m - n) 2 k ⟨g, 0, none⟩ n m (fillQ r n m).toArray 81 (szc (List.replicate k r)) Tryz.underlying60 Hinfo.out Hb5.out Hk.out (by rw [szc_length, List.length_replicate]; omega)
        (fun j v hj => by
          have hj0 : j < 2 * k := by have := (List.getElem?_eq_some_iff.1 hj).1; rwa [szc_length, List.length_replicate] at this
          have hkn : k ≤ n := by have := Hk.out; omega
          rw [← fillQ_get r (m := m) hkn hj0] at hj
          simp only [Addr.add_lit, Nat.zero_add, World.cell?, Hb5.out]
          simpa using hj) (by simp only [List.size_toArray, Hfl.out n hn, szc_length, List.length_replicate]; omega) (fun v hv => szc_one hv)
      have hsp := Hsp.out
      rw [show ((fillQ r n m).toArray.toList.take (n * 2) ++ szc (List.replicate k r) ++ (fillQ r n m).toArray.toList.drop (n * 2 + (szc (List.replicate k r)).length)) = fillQ r (n + k) m from hsp] at hrun
      have hE7 : Ext w (X.drew.setRow g (fillQ r (n + k) m).toArray) := below_setRow hE6 (by rw [Hg.out]; exact Nat.le_refl _) _
      have Hb7 := Lib.hid (setRow_heap X.drew g _ (fillQ r (n + k) m).toArray 81 _ Hb5.out)
      obtain ⟨Y, hY⟩ : ∃ Y, Y = X.drew.setRow g (fillQ r (n + k) m).toArray := ⟨_, rfl⟩
      rw [← hY] at hrun hE7 Hb7
      clear hsp hY hE6 Hb5
      go_wp2_with fail
      go_region
      clear hrun
      go_wp2_with fail
      go_roundw
      case rel => exact ⟨n + k, hkm, by go_num, Lib.hid (fun _ => by omega), Hb7, hE7⟩
      case measure => simp [intOf] <;> omega
    · have hnm : n = m := by omega
      subst hnm
      go_wp2_with fail
      go_ret
      refine ⟨g, rfl, by rw [Hg.out]; exact Nat.le_refl _, ?_, hE⟩
      refine OwnV.of (by rw [Hg.out]; exact Nat.le_refl _) Hb.out (by rw [szc_length, List.length_replicate]; exact Nat.le_refl _) (by unfold maxLen; omega) (by simp [Hfl.out n hn]) ?_
      rw [fillQ_all]; exact List.take_of_length_le (by simp)
def SzO (B : Nat) (w : World) (g : Nat) (l : List Rat) : Prop := OwnV 81 B w g (2 * l.length) (szc l)
theorem SzO.ext {B : Nat} {w w' : World} {g : Nat} {l : List Rat} (h : SzO B w g l) (he : Ext w w') : SzO B w' g l := OwnV.ext h he
theorem SzO.mono {B B' : Nat} {w : World} {g : Nat} {l : List Rat} (h : SzO B w g l) (hB : B' ≤ B) : SzO B' w g l := OwnV.mono h hB
theorem SzO.val {B : Nat} {w : World} {g : Nat} {l : List Rat} (h : SzO B w g l) : SzV B w (slv g l.length l.length) l := by
 obtain ⟨cur, h1, h2, h3, h4, h5, h6⟩ := OwnV.parts h
 rw [szc_length] at h3 h6
 refine ⟨by rw [szc_length]; omega, .inr ⟨g, l.length, cur, rfl, h1, h2, Nat.le_refl _, by omega, by omega, ?_⟩⟩
 rw [Nat.mul_comm]; exact h6
theorem SzV.slice {B : Nat} {w : World} {v : Value} {l : List Rat} (h : SzV B w v l) : ∃ a n c, v = .slice a n c := by
 rcases h.2 with ⟨rfl, _⟩ | ⟨g, cap, cur, rfl, _⟩
 ·exact ⟨_, _, _, rfl⟩
 ·exact ⟨_, _, _, rfl⟩
theorem SzV.kept {B g : Nat} {w w' : World} {v : Value} {l : List Rat} (h : SzV B w v l) (hG : w.grownBy w' (some g)) (hg : g < B) : SzV B w' v l := by
 refine World.ownsRow.kept h hG ?_
 have hl := World.ownsRow.lt h
 rcases hv : v.ownBlock with _ | q
 ·exact .inl rfl
 ·refine .inr ?_
  have := hl q hv
  intro h2
  injection h2 with h2
  omega
theorem szc_set (l : List Rat) (i : Nat) (r : Rat) : ((szc l).set (2 * i) (I r.num)).set (2 * i + 1) (I r.den) = szc (l.set i r) := by
 unfold szc
 have h := fl_set (l.map fun r => qv (qR r)) i (qv (qR r))
 rw [List.map_set]; exact h
theorem SzO.cells {B : Nat} {w : World} {g : Nat} {l : List Rat} (h : SzO B w g l) {i : Nat} (hi : i < l.length) : w.cell? ⟨g, i * 2, none⟩ = some (I l[i].num) ∧ w.cell? ⟨g, i * 2 + 1, none⟩ = some (I l[i].den) := by
 obtain ⟨k1, k2⟩ := szc_get hi
 rw [Nat.mul_comm i 2]
 obtain ⟨a1, e1⟩ := List.getElem?_eq_some_iff.1 k1
 obtain ⟨a2, e2⟩ := List.getElem?_eq_some_iff.1 k2
 exact ⟨by rw [← e1]; exact OwnV.cell h a1, by rw [← e2]; exact OwnV.cell h a2⟩
theorem SzO.step {B g i : Nat} {w W : World} {l : List Rat} (hE : Ext w W) (hg : w.heap.size ≤ g) (h : SzO B W g l) (hi : i < l.length) (r : Rat) :
  (∃ a b, W.cell? ⟨g, i * 2, none⟩ = some (I a) ∧ W.cell? ⟨g, i * 2 + 1, none⟩ = some (I b)) ∧ W.frozen? ⟨g, i * 2, none⟩ = false ∧ W.frozen? ⟨g, i * 2 + 1, none⟩ = false ∧
   Hid (SzO B ((W.setCell ⟨g, i * 2, none⟩ (I r.num)).setCell ⟨g, i * 2 + 1, none⟩ (I r.den)) g (l.set i r)) ∧
   Hid (Ext w ((W.setCell ⟨g, i * 2, none⟩ (I r.num)).setCell ⟨g, i * 2 + 1, none⟩ (I r.den))) := by
 obtain ⟨c0, c1⟩ := h.cells hi
 obtain ⟨h1, g1⟩ := OwnV.set h (2 * i) (I r.num)
 obtain ⟨h2, g2⟩ := h1.set (2 * i + 1) (I r.den)
 rw [szc_set] at h2
 refine ⟨⟨_, _, c0, c1⟩, OwnV.frozen h _, OwnV.frozen h _, Lib.hid ?_, Lib.hid ?_⟩
 ·unfold SzO
  rw [List.length_set, Nat.mul_comm i 2]; exact h2
 ·rw [Nat.mul_comm i 2]; exact ext_trans_grown hE (grown_trans g1 g2) hg
theorem SzO.stepB {B K g i : Nat} {w W : World} {l : List Rat} (hE : Below K w W) (hK : K ≤ w.heap.size) (hg : K ≤ g) (h : SzO B W g l) (hi : i < l.length) (r : Rat) :
  (∃ a b, W.cell? ⟨g, i * 2, none⟩ = some (I a) ∧ W.cell? ⟨g, i * 2 + 1, none⟩ = some (I b)) ∧ W.frozen? ⟨g, i * 2, none⟩ = false ∧ W.frozen? ⟨g, i * 2 + 1, none⟩ = false ∧
   Hid (SzO B ((W.setCell ⟨g, i * 2, none⟩ (I r.num)).setCell ⟨g, i * 2 + 1, none⟩ (I r.den)) g (l.set i r)) ∧
   Hid (Below K w ((W.setCell ⟨g, i * 2, none⟩ (I r.num)).setCell ⟨g, i * 2 + 1, none⟩ (I r.den))) ∧ Hid (W.grownBy ((W.setCell ⟨g, i * 2, none⟩ (I r.num)).setCell ⟨g, i * 2 + 1, none⟩ (I r.den)) (some g)) := by
 obtain ⟨c0, c1⟩ := h.cells hi
 obtain ⟨h1, g1⟩ := OwnV.set h (2 * i) (I r.num)
 obtain ⟨h2, g2⟩ := h1.set (2 * i + 1) (I r.den)
 rw [szc_set] at h2
 refine ⟨⟨_, _, c0, c1⟩, OwnV.frozen h _, OwnV.frozen h _, Lib.hid ?_, Lib.hid ?_, Lib.hid ?_⟩
 ·unfold SzO
  rw [List.length_set, Nat.mul_comm i 2]; exact h2
 ·rw [Nat.mul_comm i 2]; exact Below.grown hE (grown_trans g1 g2) (by have := hE.size; omega) (fun q hq => by injection hq with hq; omega)
 ·rw [Nat.mul_comm i 2]; exact grown_trans g1 g2
theorem I_zeroR : I (0 : Rat).num = .string ⟨#[48]⟩ ∧ I ((0 : Rat).den : Int) = .string ⟨#[49]⟩ := by
 unfold I S
 refine ⟨?_, ?_⟩
 ·rw [show (0 : Rat).num = ((0 : Nat) : Int) from rfl, itoa_nat, dec_zero]
 ·rw [show (((0 : Rat).den : Nat) : Int) = 1 from rfl, itoa_one]
set_option maxHeartbeats 4000000 in
theorem combine_any {w : World} {pa : Option Addr} {np cp : Nat} {v fv : Value} {L : List (List Rat)} {fs : List Rat} (hG : GnR w v L) (hf : SzR w fv fs) (hc : ∀ l ∈ L, l.length = np) (hfl : L.length ≤ fs.length) (hE : ∀ l ∈ L, ∀ r ∈ l, NdQ 1000 r) (hF : ∀ r ∈ fs, NdQ 1000 r) (hn : np ≤ 1000) (hk : L.length ≤ 1000) (hL : Laid w) :
  Calls Tryz.prog 86 #[.slice pa np cp, v, fv] w fun e w' => (∃ g, e = .returned (slv g np np) ∧ w.heap.size ≤ g ∧ SzO w.heap.size w' g (cmbQ L fs np)) ∧ Ext w w' := by
 obtain ⟨sa, gb, go, cap, vs, rfl, hcap, hvl, hS, hr⟩ := hG
 obtain ⟨fa, fb, fo, fcap, rfl, hfc, hfa, hfr⟩ := hf
 have HS := Lib.hid hS
 have Hr := Lib.hid hr
 have Hv := Lib.hid hvl
 have Hc := Lib.hid hc
 have Hfa := Lib.hid hfa
 have Hfr := Lib.hid hfr
 have HL := Lib.hid hL
 have Hnd := Lib.hid (fun c k => cmbF_nd (c := c) (k := k) hE hF (by omega) (by omega))
 have Hsum := Lib.hid (fun c k (h : k ≤ 1000) => (sumR_nd k (fun t _ => cmbF_nd (c := c) (k := t) hE hF (by omega) (by omega))).smQ (by have : k * (1000 + 1000 + 1) ≤ 1000 * (1000 + 1000 + 1) := Nat.mul_le_mul_right _ h; omega))
 have Hss := Lib.hid (fun k i (h : k < L.length) (h2 : i < L[k].length) s (hs : s = L[k][i]) => show SmQ s by rw [hs]; exact (hE _ (List.getElem_mem h) _ (List.getElem_mem h2)).smQ (by omega))
 have Hpp := Lib.hid (fun k (h : k < fs.length) s (hs : fs[k] = s) => show SmQ s by rw [← hs]; exact (hF _ (List.getElem_mem h)).smQ (by omega))
 have eX := (Ext.refl w).alloc (.cells #[.string ⟨#[48]⟩, .string ⟨#[49]⟩] 81)
 have hO := two_alloc w 81 (.string ⟨#[48]⟩) (.string ⟨#[49]⟩)
 have x0 := hO.cell (j := 0) (by simp)
 have x1 := hO.cell (j := 1) (by simp)
 simp only [List.getElem_cons_zero, List.getElem_cons_succ] at x0 x1
 have hrp := Lib.hid (repeatQ_any (m := np) (by omega) (c := 1) (o := 0) (r := 0) (w := w.alloc (.cells #[.string ⟨#[48]⟩, .string ⟨#[49]⟩] 81)) (b := w.heap.size) (by rw [x0, I_zeroR.1]) (by rw [x1, I_zeroR.2]))
 have Hws := Lib.hid (show (w.alloc (.cells #[.string ⟨#[48]⟩, .string ⟨#[49]⟩] 81)).heap.size = w.heap.size + 1 by simp)
 obtain ⟨m, hm⟩ : ∃ m, m = L.length := ⟨_, rfl⟩
 obtain ⟨q, hq⟩ : ∃ q, q = fs.length := ⟨_, rfl⟩
 rw [← hm] at hcap hfl hk ⊢
 rw [← hq] at hfc hfl ⊢
 have Hm := Lib.hid hm
 have Hq := Lib.hid hq
 clear hS hr hvl hc hfa hfr hL hE hF hO x0 x1 hm hq
 go_enter Tryz.func86, Tryz.ntmps86
 go_wp2_with fail
 refine hrp.out.mono ?_
 rintro e w0 ⟨g, rfl, hg, hO, hE0⟩
 have hgw : w.heap.size ≤ g := by have := Hws.out; omega
 have HO := Lib.hid (show SzO w.heap.size w0 g (cmbTo L fs np 0 0) by
  rw [cmbTo_zero]; unfold SzO; rw [List.length_replicate]; exact OwnV.mono hO (by have := Hws.out; omega))
 have e0 := eX.trans hE0
 have Hgw := Lib.hid hgw
 clear hrp hO hE0 eX hg hgw
 go_wp2_with fail
 go_loopw [18] (fun kv wr => ∃ k : Nat, k ≤ m ∧ kv = .int .i64 k ∧ Hid (SzO w.heap.size wr g (cmbTo L fs np k 0)) ∧ Ext w wr) (fun kv _ => m - (intOf kv).toNat)
 case atStart => exact ⟨0, by omega, by go_num, HO, e0⟩
 case round =>
  obtain ⟨k, hk', rfl, HO, hE⟩ := hrel
  generalize wr = Y at *
  by_cases hlt : k < m
  ·have hki : (k : Int) < (m : Int) := by omega
   have hkL : k < L.length := by rw [← Hm.out]; exact hlt
   have hkv : k < vs.length := by rw [Hv.out]; exact hkL
   obtain rfl := HS.out.addr (by omega)
   have k0 := HS.out.cell k _ (List.getElem?_eq_getElem hkv)
   have hsz := Hr.out k hkL hkv
   have hln := Hc.out _ (List.getElem_mem hkL)
   have hLk : L.getD k [] = L[k] := by rw [List.getD_eq_getElem?_getD, List.getElem?_eq_getElem hkL]; rfl
   obtain ⟨xa, xb, xo, xc, ex, q1, q2, q3⟩ := hsz
   rw [ex] at k0
   rw [hln] at k0 q1 q2
   have hkf : k < q := by omega
   have hfk : k < fs.length := by rw [← Hq.out]; exact hkf
   obtain rfl := Hfa.out (by omega)
   have f01 := Hfr.out k hfk
   have hfD : fs.getD k 0 = fs[k] := by rw [List.getD_eq_getElem?_getD, List.getElem?_eq_getElem hfk]; rfl
   obtain ⟨p, hp⟩ : ∃ p, p = fs[k] := ⟨_, rfl⟩
   rw [← hp] at f01 hfD
   obtain ⟨f0, f1⟩ := f01
   have y0 := hE.cell k0
   have HfD := Lib.hid hfD
   have HLk := Lib.hid hLk
   have Hq2 := Lib.hid q2
   have Hln := Lib.hid hln
   have Hq3 := Lib.hid (fun i (h : i < L[k].length) => q3 i h)
   have hkfI : (k : Int) < (q : Int) := by omega
   clear ex k0 hln q2 q3 hfD hLk hkv hp
   go_wp2_with fail
   go_loopw [25] (fun iv wr => ∃ i : Nat, i ≤ np ∧ iv = .int .i64 i ∧ Hid (SzO w.heap.size wr g (cmbTo L fs np k i)) ∧ Ext w wr) (fun iv _ => np - (intOf iv).toNat)
   case atStart => exact ⟨0, by omega, by go_num, HO, hE⟩
   case round =>
    obtain ⟨i, hi, rfl, HO, eX⟩ := hrel
    generalize wr = X at *
    by_cases hli : i < np
    ·have hii : (i : Int) < (np : Int) := by omega
     obtain rfl := Hq2.out (by omega)
     have s01 := Hq3.out i (by rw [Hln.out]; exact hli)
     obtain ⟨s, hs⟩ : ∃ s, s = L[k][i]'(by rw [Hln.out]; exact hli) := ⟨_, rfl⟩
     rw [← hs] at s01
     have hFk : cmbF L fs i k = s * p := by
      unfold cmbF
      rw [HLk.out, HfD.out, List.getD_eq_getElem?_getD, List.getElem?_eq_getElem (by rw [Hln.out]; exact hli), hs]; rfl
     have hsN := Hnd.out i k
     rw [hFk] at hsN
     have hsm : SmQ s := Hss.out k i hkL (by rw [Hln.out]; exact hli) s hs
     have hpm : SmQ p := Hpp.out k hfk p (by rw [← HfD.out, List.getD_eq_getElem?_getD, List.getElem?_eq_getElem hfk]; rfl)
     obtain ⟨t, ht⟩ : ∃ t, t = sumR (cmbF L fs i) k := ⟨_, rfl⟩
     have htm := Hsum.out i k (by omega)
     rw [← ht] at htm
     have hil : i < (cmbTo L fs np k i).length := by rw [cmbTo_length]; exact hli
     have t01 := HO.out.cells hil
     have hti : (cmbTo L fs np k i)[i] = t := by
      have := cmbTo_at (l := L) (fs := fs) (k := k) hli
      rw [List.getD_eq_getElem?_getD, List.getElem?_eq_getElem hil, Option.getD_some] at this
      rw [this, ht]
     rw [hti] at t01
     have hst : (cmbTo L fs np k i).set i (t + s * p) = cmbTo L fs np k (i + 1) := by
      rw [ht, ← hFk]; exact cmbTo_step hli
     have Hst := Lib.hid hst
     have Hil := Lib.hid hil
     have hmu := Lib.hid (fun W (hW : Ext X W) => ratMul_any (a := s) (b := p) hsm hpm (HL.out.ext (eX.trans hW)))
     have had := Lib.hid (fun W (hW : Ext X W) => ratAdd_any (a := t) (b := s * p) htm (hsN.smQ (by omega)) (HL.out.ext (eX.trans hW)))
     obtain ⟨t0, t1⟩ := t01
     obtain ⟨s0, s1⟩ := s01
     have s0 := eX.cell s0
     have s1 := eX.cell s1
     have p0 := eX.cell f0
     have p1 := eX.cell f1
     clear hst hil hti htm hsN hsm hpm hFk hs ht hlt hli
     go_wp2_with fail
     have d0 : Ext X X.drew := (Ext.refl X).drew
     refine wp_region_held_tail (S := fun W => Ext X W) 16 (by kernel_rfl) (by simp) ?_
     intro inv
     generalize X.drew = X1 at *
     refine wpAnyLH_take (i := 0) (v := slv g np np) rfl (by kernel_rfl) (fun _ _ _ h => h) (.inl ⟨by rfl, fun W hW => by go_simp⟩) d0 inv ?_
     intro inv
     go_simp
     refine wpAnyLH_take (i := 1) (v := .int .i64 i) rfl (by kernel_rfl) (fun _ _ _ h => h) (.inl ⟨by rfl, fun W hW => by go_simp⟩) d0 inv ?_
     intro inv
     go_simp
     refine wpAnyLH_take (i := 2) (v := slv g np np) rfl (by kernel_rfl) (fun _ _ _ h => h) (.inl ⟨by rfl, fun W hW => by go_simp⟩) d0 inv ?_
     intro inv
     go_simp
     refine wpAnyLH_take (i := 3) (v := .int .i64 i) rfl (by kernel_rfl) (fun _ _ _ h => h) (.inl ⟨by rfl, fun W hW => by go_simp⟩) d0 inv ?_
     intro inv
     go_simp
     refine wpAnyLH_take (i := 4) (v := .pointer (some ⟨g, i * 2, none⟩)) rfl (by kernel_rfl) (fun _ _ _ h => h) (.inl ⟨by rfl, fun W hW => by go_simp⟩) d0 inv ?_
     intro inv
     go_simp
     refine wpAnyLH_take (i := 5) (v := RV t) rfl (by kernel_rfl) (fun _ _ _ h => h) (.inl ⟨by rfl, fun W hW => by have z0 := hW.cell t0; have z1 := hW.cell t1; go_simp⟩) d0 inv ?_
     intro inv
     go_simp
     refine wpAnyLH_take (i := 6) (v := .slice (some ⟨xb, xo, none⟩) np xc) rfl (by kernel_rfl) (fun _ _ _ h => h) (.inl ⟨by rfl, fun W hW => by go_simp⟩) d0 inv ?_
     intro inv
     go_simp
     refine wpAnyLH_take (i := 7) (v := .int .i64 i) rfl (by kernel_rfl) (fun _ _ _ h => h) (.inl ⟨by rfl, fun W hW => by go_simp⟩) d0 inv ?_
     intro inv
     go_simp
     refine wpAnyLH_take (i := 8) (v := .pointer (some ⟨xb, xo + i * 2, none⟩)) rfl (by kernel_rfl) (fun _ _ _ h => h) (.inl ⟨by rfl, fun W hW => by go_simp⟩) d0 inv ?_
     intro inv
     go_simp
     refine wpAnyLH_take (i := 9) (v := RV s) rfl (by kernel_rfl) (fun _ _ _ h => h) (.inl ⟨by rfl, fun W hW => by have z0 := hW.cell s0; have z1 := hW.cell s1; go_simp⟩) d0 inv ?_
     intro inv
     go_simp
     refine wpAnyLH_take (i := 10) (v := .slice (some ⟨fb, fo, none⟩) q fcap) rfl (by kernel_rfl) (fun _ _ _ h => h) (.inl ⟨by rfl, fun W hW => by go_simp⟩) d0 inv ?_
     intro inv
     go_simp
     refine wpAnyLH_take (i := 11) (v := .int .i64 k) rfl (by kernel_rfl) (fun _ _ _ h => h) (.inl ⟨by rfl, fun W hW => by go_simp⟩) d0 inv ?_
     intro inv
     go_simp
     refine wpAnyLH_take (i := 12) (v := .pointer (some ⟨fb, fo + k * 2, none⟩)) rfl (by kernel_rfl) (fun _ _ _ h => h) (.inl ⟨by rfl, fun W hW => by go_simp⟩) d0 inv ?_
     intro inv
     go_simp
     refine wpAnyLH_take (i := 13) (v := RV p) rfl (by kernel_rfl) (fun _ _ _ h => h) (.inl ⟨by rfl, fun W hW => by have z0 := hW.cell p0; have z1 := hW.cell p1; go_simp⟩) d0 inv ?_
     intro inv
     go_simp
     refine wpAnyLH_oneI (i := 14) rfl (by kernel_rfl) inv (fun inv K0 hK0 => ?_)
     go_simp
     refine (hmu.out _ d0).mono ?_
     rintro e X2 ⟨rfl, hG1⟩
     have d1 := d0.trans hG1
     refine hK0 _ _ d1 ?_
     clear hK0
     refine wpAnyLH_oneI (i := 15) rfl (by kernel_rfl) inv (fun inv K0 hK0 => ?_)
     go_simp
     refine (had.out _ d1).mono ?_
     rintro e X3 ⟨rfl, hG2⟩
     have d2 := d1.trans hG2
     refine hK0 _ _ d2 ?_
     clear hK0
     refine wpAnyLH_end (by kernel_rfl) ?_
     have HO3 := HO.out.ext d2
     obtain ⟨⟨ca, cb, z0, z1⟩, f0', f1', HO9, hE9⟩ := SzO.step ((eX.trans d2)) Hgw.out HO3 Hil.out (t + s * p)
     rw [Hst.out] at HO9
     clear hmu had inv d0 d1 hG1 hG2 t0 t1 s0 s1 p0 p1 HO HO3
     go_wp2_with fail
     go_roundw
     case rel => exact ⟨i + 1, by omega, by go_num, HO9, hE9.out⟩
     case measure => simp [intOf] <;> omega
    ·obtain rfl : i = np := by omega
     have hii : ¬ (i : Int) < (i : Int) := by omega
     have HOn := Lib.hid (show SzO w.heap.size X g (cmbTo L fs i (k + 1) 0) by rw [← cmbTo_row]; exact HO.out)
     clear HO
     go_wp2_with fail
     go_roundw
     case rel => exact ⟨k + 1, by omega, by go_num, HOn, eX⟩
     case measure => simp [intOf] <;> omega
  ·obtain rfl : k = m := by omega
   have hki : ¬ (k : Int) < (k : Int) := by omega
   have HOn := Lib.hid (show SzO w.heap.size Y g (cmbQ L fs np) by rw [← cmbTo_all, ← Hm.out]; exact HO.out)
   clear HO
   go_wp2_with fail
   go_ret
   exact ⟨⟨g, rfl, Hgw.out, HOn.out⟩, hE⟩
end Go.Proofs.YtjnpakablgommaaGreatDoor
