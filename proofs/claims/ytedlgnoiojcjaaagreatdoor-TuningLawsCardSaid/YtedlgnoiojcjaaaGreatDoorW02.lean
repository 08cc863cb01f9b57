/- Part 2, beside the shared parts, of the proof of the claim: contracts and plain laws; no condition. -/
import Derived.Test.YtedlgnoiojcjaaaGreatDoorV01
import Derived.Test.YtedlgnoiojcjaaaGreatDoorV02
import Derived.Test.YtedlgnoiojcjaaaGreatDoorV03
import Derived.Test.YtedlgnoiojcjaaaGreatDoorV04
import Derived.Test.YtedlgnoiojcjaaaGreatDoorV05
import Derived.Test.YtedlgnoiojcjaaaGreatDoorV06
import Derived.Test.YtedlgnoiojcjaaaGreatDoorV07
import Derived.Test.YtedlgnoiojcjaaaGreatDoorV08
import Derived.Test.YtedlgnoiojcjaaaGreatDoorV09
import Derived.Test.YtedlgnoiojcjaaaGreatDoorV10
import Derived.Test.YtedlgnoiojcjaaaGreatDoorV11
import Derived.Test.YtedlgnoiojcjaaaGreatDoorV12
import Derived.Test.YtedlgnoiojcjaaaGreatDoorV13
import Derived.Test.YtedlgnoiojcjaaaGreatDoorV14
import Derived.Test.YtedlgnoiojcjaaaGreatDoorV15
import Derived.Test.YtedlgnoiojcjaaaGreatDoorV16
import Derived.Test.YtedlgnoiojcjaaaGreatDoorV17
import Derived.Test.YtedlgnoiojcjaaaGreatDoorV18
import Derived.Test.YtedlgnoiojcjaaaGreatDoorV19
import Derived.Test.YtedlgnoiojcjaaaGreatDoorV20
import Derived.Test.YtedlgnoiojcjaaaGreatDoorV21
import Derived.Test.YtedlgnoiojcjaaaGreatDoorV22
import Derived.Test.YtedlgnoiojcjaaaGreatDoorV23
import Derived.Test.YtedlgnoiojcjaaaGreatDoorV24
import Derived.Test.YtedlgnoiojcjaaaGreatDoorV25
import Derived.Test.YtedlgnoiojcjaaaGreatDoorV26
import Derived.Test.YtedlgnoiojcjaaaGreatDoorV27
import Derived.Test.YtedlgnoiojcjaaaGreatDoorV28
import Derived.Test.YtedlgnoiojcjaaaGreatDoorV29
import Derived.Test.YtedlgnoiojcjaaaGreatDoorV30
import Derived.Test.YtedlgnoiojcjaaaGreatDoorV31
import Derived.Test.YtedlgnoiojcjaaaGreatDoorW01
import Derived.Lib.Join
import Derived.BigQuiet
set_option maxRecDepth 100000
namespace Go.Proofs.YtedlgnoiojcjaaaGreatDoor
open Go.RowKit Go.Sort
theorem szshort_yes {n d : Int} (hn : nd n ≤ 30 ∧ nd d ≤ 30) (h0 : 0 < d) (w : World) :
  Calls Tryz.prog 126 #[.agg #[I n, I d]] w fun e w' => e = .returned (.bool true) ∧ Ext w w' := by
 have h := szshort_all (n := n) (d := d) (by omega) h0 w
 rwa [show shB n d = true by unfold shB; simp [hn.1, hn.2]] at h
set_option maxHeartbeats 1000000 in
theorem none_cmb {w : World} {v : Value} {l : List Rat} (hs : SzR w v l) (hl : l.length ≤ 1000000)
  (hF : ∀ i (h : i < l.length) W, Ext w W → Calls Tryz.prog 113 #[RV l[i]] W fun e w' => e = .returned (.bool false) ∧ Ext W w') :
  Calls Tryz.prog 169 #[v, .func (.func 113) #[] #[]] w fun e w' => e = .returned (.int .i64 (-1)) ∧ Ext w w' := by
 obtain ⟨sa, gb, go, cap, rfl, hc, ha, hr⟩ := hs
 obtain ⟨n, hn⟩ : ∃ n, n = l.length := ⟨_, rfl⟩
 rw [← hn] at hc ha hl ⊢
 have Hn := Lib.hid hn
 have Hr := Lib.hid hr
 have Ha := Lib.hid ha
 have HF := Lib.hid hF
 clear hr ha hF hn
 go_enter Tryz.func169, Tryz.ntmps169
 go_wp2_with fail
 go_loopw [8] (fun idx wr => ∃ i : Nat, i ≤ n ∧ idx = .int .i64 i ∧ Ext w wr) (fun idx _ => n - (intOf idx).toNat)
 case atStart => exact ⟨0, by omega, by go_num, Ext.refl _⟩
 case round =>
  obtain ⟨i, hi, rfl, hE⟩ := hrel
  generalize wr = X at *
  by_cases hlt : i < n
  ·have hii : (i : Int) < (n : Int) := by omega
   have hil : i < l.length := by rw [← Hn.out]; exact hlt
   obtain rfl := Ha.out (by omega)
   obtain ⟨k0, k1⟩ := Hr.out i hil
   have x0 := hE.cell k0
   have x1 := hE.cell k1
   have Hf := Lib.hid (HF.out i hil X hE)
   unfold RV at Hf
   generalize l[i] = s at *
   clear k0 k1 hlt
   go_wp2_with fail
   refine Hf.out.mono ?_
   rintro e W ⟨rfl, hE2⟩
   go_wp2_with fail
   go_roundw
   case rel => exact ⟨i + 1, by omega, by go_num, hE.trans hE2⟩
   case measure => simp [intOf] <;> omega
  ·obtain rfl : i = n := by omega
   have hii : ¬ (i : Int) < (i : Int) := by omega
   go_wp2_with fail
   go_ret
   exact ⟨rfl, hE⟩
theorem nohas_cmb {w : World} {v : Value} {l : List Rat} (hs : SzR w v l) (hl : l.length ≤ 1000000)
  (hF : ∀ i (h : i < l.length) W, Ext w W → Calls Tryz.prog 113 #[RV l[i]] W fun e w' => e = .returned (.bool false) ∧ Ext W w') :
  Calls Tryz.prog 112 #[v, .func (.func 113) #[] #[]] w fun e w' => e = .returned (.bool false) ∧ Ext w w' := by
 have HI := Lib.hid (none_cmb hs hl hF)
 obtain ⟨sa, gb, go, cap, rfl, hc, ha, hr⟩ := hs
 clear hc ha hr hF
 go_enter Tryz.func112, Tryz.ntmps112
 go_wp2_with fail
 refine HI.out.mono ?_
 rintro e W ⟨rfl, hE⟩
 go_wp2_with fail
 go_ret
 exact ⟨rfl, hE⟩
theorem clo_cmb {s : Rat} {w : World} (hL : Laid w) (h30 : NdQ 400 s) :
  Calls Tryz.prog 113 #[RV s] w fun e w' => e = .returned (.bool false) ∧ Ext w w' := by
 have hpos := qR_pos s
 have hcop := qR_cop s
 simp only [qR] at hpos hcop
 have hX : Ext w (w.alloc (.cells #[I s.num, I s.den] 63)) := (Ext.refl w).alloc _
 have hck := Lib.hid (fun W (hW : Ext w W) => fcheck_any (n := s.num) (d := s.den) h30.1 h30.2 hpos hcop (hL.ext hW))
 have HO := two_alloc w 63 (I s.num) (I s.den)
 have c0 : (w.alloc (.cells #[I s.num, I s.den] 63)).cell? ⟨w.heap.size, 0, none⟩ = some (I s.num) := HO.cell (j := 0) (by simp)
 have c1 : (w.alloc (.cells #[I s.num, I s.den] 63)).cell? ⟨w.heap.size, 1, none⟩ = some (I s.den) := HO.cell (j := 1) (by simp)
 unfold RV
 clear HO hpos hcop hL h30
 generalize s.num = a at *
 generalize ((s.den : Nat) : Int) = d at *
 go_enter Tryz.func113, Tryz.ntmps113
 go_wp2_with fail
 refine (hck.out _ hX).mono ?_
 rintro e W ⟨rfl, hE⟩
 go_wp2_with fail
 go_ret
 exact ⟨rfl, hX.trans hE⟩
set_option maxHeartbeats 1000000 in
theorem none_res {w : World} {v : Value} {l : List Rat} (hs : SzR w v l) (hl : l.length ≤ 1000000)
  (hF : ∀ i (h : i < l.length) W, Ext w W → Calls Tryz.prog 170 #[RV l[i]] W fun e w' => e = .returned (.bool false) ∧ Ext W w') :
  Calls Tryz.prog 158 #[v, .func (.func 170) #[] #[]] w fun e w' => e = .returned (.int .i64 (-1)) ∧ Ext w w' := by
 obtain ⟨sa, gb, go, cap, rfl, hc, ha, hr⟩ := hs
 obtain ⟨n, hn⟩ : ∃ n, n = l.length := ⟨_, rfl⟩
 rw [← hn] at hc ha hl ⊢
 have Hn := Lib.hid hn
 have Hr := Lib.hid hr
 have Ha := Lib.hid ha
 have HF := Lib.hid hF
 clear hr ha hF hn
 go_enter Tryz.func158, Tryz.ntmps158
 go_wp2_with fail
 go_loopw [8] (fun idx wr => ∃ i : Nat, i ≤ n ∧ idx = .int .i64 i ∧ Ext w wr) (fun idx _ => n - (intOf idx).toNat)
 case atStart => exact ⟨0, by omega, by go_num, Ext.refl _⟩
 case round =>
  obtain ⟨i, hi, rfl, hE⟩ := hrel
  generalize wr = X at *
  by_cases hlt : i < n
  ·have hii : (i : Int) < (n : Int) := by omega
   have hil : i < l.length := by rw [← Hn.out]; exact hlt
   obtain rfl := Ha.out (by omega)
   obtain ⟨k0, k1⟩ := Hr.out i hil
   have x0 := hE.cell k0
   have x1 := hE.cell k1
   have Hf := Lib.hid (HF.out i hil X hE)
   unfold RV at Hf
   generalize l[i] = s at *
   clear k0 k1 hlt
   go_wp2_with fail
   refine Hf.out.mono ?_
   rintro e W ⟨rfl, hE2⟩
   go_wp2_with fail
   go_roundw
   case rel => exact ⟨i + 1, by omega, by go_num, hE.trans hE2⟩
   case measure => simp [intOf] <;> omega
  ·obtain rfl : i = n := by omega
   have hii : ¬ (i : Int) < (i : Int) := by omega
   go_wp2_with fail
   go_ret
   exact ⟨rfl, hE⟩
theorem nohas_res {w : World} {v : Value} {l : List Rat} (hs : SzR w v l) (hl : l.length ≤ 1000000)
  (hF : ∀ i (h : i < l.length) W, Ext w W → Calls Tryz.prog 170 #[RV l[i]] W fun e w' => e = .returned (.bool false) ∧ Ext W w') :
  Calls Tryz.prog 94 #[v, .func (.func 170) #[] #[]] w fun e w' => e = .returned (.bool false) ∧ Ext w w' := by
 have HI := Lib.hid (none_res hs hl hF)
 obtain ⟨sa, gb, go, cap, rfl, hc, ha, hr⟩ := hs
 clear hc ha hr hF
 go_enter Tryz.func94, Tryz.ntmps94
 go_wp2_with fail
 refine HI.out.mono ?_
 rintro e W ⟨rfl, hE⟩
 go_wp2_with fail
 go_ret
 exact ⟨rfl, hE⟩
theorem clo_res {s : Rat} {w : World} (_hL : Laid w) (h30 : nd s.num ≤ 30 ∧ nd (s.den : Int) ≤ 30) :
  Calls Tryz.prog 170 #[RV s] w fun e w' => e = .returned (.bool false) ∧ Ext w w' := by
 have hpos := qR_pos s
 have hcop := qR_cop s
 simp only [qR] at hpos hcop
 have hX : Ext w (w.alloc (.cells #[I s.num, I s.den] 63)) := (Ext.refl w).alloc _
 have hck := Lib.hid (fun W (hW : Ext w W) => szshort_yes (n := s.num) (d := s.den) h30 hpos W)
 have HO := two_alloc w 63 (I s.num) (I s.den)
 have c0 : (w.alloc (.cells #[I s.num, I s.den] 63)).cell? ⟨w.heap.size, 0, none⟩ = some (I s.num) := HO.cell (j := 0) (by simp)
 have c1 : (w.alloc (.cells #[I s.num, I s.den] 63)).cell? ⟨w.heap.size, 1, none⟩ = some (I s.den) := HO.cell (j := 1) (by simp)
 unfold RV
 clear HO hpos hcop _hL h30
 generalize s.num = a at *
 generalize ((s.den : Nat) : Int) = d at *
 go_enter Tryz.func170, Tryz.ntmps170
 go_wp2_with fail
 refine (hck.out _ hX).mono ?_
 rintro e W ⟨rfl, hE⟩
 go_wp2_with fail
 go_ret
 exact ⟨rfl, hX.trans hE⟩
theorem szResult_ok {w : World} {v : Value} {l : List Rat} (hs : SzR w v l) (hl : l.length ≤ 1000000) (h : ShQ l) (hL : Laid w) :
  Calls Tryz.prog 114 #[v] w fun e w' => e = .returned (.tuple #[v, .int .i64 0]) ∧ Ext w w' := by
 have hc := Lib.hid (nohas_res hs hl (fun i hi W hW => clo_res (hL.ext hW) (h _ (List.getElem_mem hi))))
 obtain ⟨sa, gb, go, cap, rfl, hcc, ha, hr⟩ := hs
 clear hcc ha hr h hL
 go_enter Tryz.func114, Tryz.ntmps114
 go_wp2_with fail
 refine hc.out.mono ?_
 rintro e W ⟨rfl, hE⟩
 go_wp2_with fail
 go_ret2
 exact ⟨rfl, hE⟩
set_option maxHeartbeats 4000000 in
theorem szCombine_ok {w : World} {pa : Option Addr} {np cp : Nat} {v fv : Value} {L : List (List Rat)} {fs : List Rat} (hpc : ∀ W, Ext w W → Calls Tryz.prog 50 #[.slice pa np cp] W fun e w' => e = .returned (.int .i64 0) ∧ Ext W w') (hG : GnR w v L) (hf : SzR w fv fs) (hc : ∀ l ∈ L, l.length = np) (hfl : fs.length = L.length) (hE : ∀ l ∈ L, ShQ l) (hF : ∀ r ∈ fs, NdQ 400 r) (hn : np ≤ 1000) (hk : L.length ≤ 1000) (hR : ShQ (cmbQ L fs np)) (hL : Laid w) :
  Calls Tryz.prog 66 #[.slice pa np cp, v, fv] w fun e w' => (∃ g, e = .returned (.tuple #[slv g np np, .int .i64 0]) ∧ w.heap.size ≤ g ∧ SzO w.heap.size w' g (cmbQ L fs np)) ∧ Ext w w' := by
 have h1 := Lib.hid (szall_any hpc hG hc hE (by omega) (by omega) hL)
 have h2 := Lib.hid (fun W (hW : Ext w W) => nohas_cmb (hf.ext hW) (by omega) (fun i hi W2 hW2 => clo_cmb (hL.ext (hW.trans hW2)) (hF _ (List.getElem_mem hi))))
 have h3 := Lib.hid (fun W (hW : Ext w W) => szsum_any (np := np) (hG.ext hW) (hf.ext hW) hc (by omega) (fun l hl r hr => shQ_nd (hE l hl) (by omega) r hr) (fun r hr => (hF r hr).mono (by omega)) hn hk (hL.ext hW))
 have h4 := Lib.hid (fun W g (hW : Ext w W) (hg : SzR W (slv g np np) (cmbQ L fs np)) => szResult_ok hg (by rw [cmbQ_length]; omega) hR (hL.ext hW))
 obtain ⟨sa, gb, go, cap, vs, rfl, hcap, hvl, hS, hr⟩ := hG
 obtain ⟨fa, fb, fo, fcap, rfl, hfc, hfa, hfr⟩ := hf
 rw [hfl] at h2 h3 ⊢
 clear hS hr hvl hc hfa hfr hL hE hF hpc hfl hfc hcap hR
 generalize L.length = m at *
 go_enter Tryz.func66, Tryz.ntmps66
 go_wp2_with fail
 refine h1.out.mono ?_
 rintro e X1 ⟨rfl, hE1⟩
 go_wp2_with fail
 refine (h2.out _ hE1).mono ?_
 rintro e X2 ⟨rfl, hE2⟩
 have e2 := hE1.trans hE2
 go_wp2_with fail
 refine (h3.out _ e2).mono ?_
 rintro e X3 ⟨⟨g, rfl, hg, hO⟩, hE3⟩
 have e3 := e2.trans hE3
 have hz : SzR X3 (slv g np np) (cmbQ L fs np) := by
  have := hO.val.read
  rwa [cmbQ_length] at this
 have h4 := Lib.hid (h4.out _ _ e3 hz)
 have HO := Lib.hid hO
 have Hg := Lib.hid (show w.heap.size ≤ g by have := e2.size; omega)
 have Hs := Lib.hid e2.size
 clear hO hz hg h1 h2 h3
 go_wp2_with fail
 refine h4.out.mono ?_
 rintro e X4 ⟨rfl, hE4⟩
 go_wp2_with fail
 go_ret2
 exact ⟨⟨g, rfl, Hg.out, (HO.out.ext hE4).mono Hs.out⟩, e3.trans hE4⟩
def StrO (B : Nat) (w : World) (v : Value) (xs : List ByteArray) : Prop := w.ownsRow B 9 1 v xs.length (xs.map .string)
theorem StrO.nil (B : Nat) (w : World) : StrO B w (.slice none 0 0) [] := ⟨rfl, .inl ⟨rfl, rfl⟩⟩
theorem StrO.ext {B : Nat} {w w' : World} {v : Value} {xs : List ByteArray} (h : StrO B w v xs) (he : Ext w w') : StrO B w' v xs := ownsRow_ext h he
theorem StrO.mono {B B' : Nat} {w : World} {v : Value} {xs : List ByteArray} (h : StrO B w v xs) (hB : B' ≤ B) : StrO B' w v xs := ownsRow_mono h hB
theorem StrO.shape {B : Nat} {w : World} {v : Value} {xs : List ByteArray} (h : StrO B w v xs) (h0 : 0 < xs.length) : ∃ g cap, v = slv g xs.length cap ∧ xs.length ≤ cap ∧ g < w.heap.size ∧ ∀ (j : Nat) x, xs[j]? = some x → w.cell? ⟨g, 0 + j, none⟩ = some (.string x) := by
 have hl := World.ownsRow.lt h
 rcases h.2 with ⟨_, he⟩ | ⟨g, cap, cur, rfl, hb, hg, hn, hm, hs, ht⟩
 ·rw [he] at h0; cases h0
 ·refine ⟨g, cap, rfl, hn, (hl g rfl).2, fun j x hj => ?_⟩
  have hj2 : j < xs.length := (List.getElem?_eq_some_iff.1 hj).1
  have := World.ownsRow.cellAt h j (by omega)
  rw [Nat.zero_add, this, List.getElem?_map, hj]; rfl
theorem Tryz.infoByt : (Tryz.prog.info? 9).map (fun i => (i.zero, i.size, i.bytes)) = some (some (.string ⟨#[]⟩), 1, 16) := by kernel_rfl
theorem one_byt (z : ByteArray) : ∀ u ∈ [Value.string z], u.oneCell' = true := fun u hu => by
 simp only [List.mem_cons, List.not_mem_nil, or_false] at hu
 subst hu; rfl
section
variable {w : World} {ops : Array Oper} {rest : List Oper} {o : Oper} {a : Act} {Q : Exit → Act → World → Prop}
theorem app_str (hgd : o.guard = none) (s x : Operand) (t : TypeId) (ht : Tryz.prog.underlying t = some (.slice 9)) (ho : o.op = .call { callee := .builtin .append, args := #[s, x], argTypes := #[t, t] })
  {B : Nat} {v : Value} {r : List ByteArray} (hs : a.eval s = v) (hown : StrO B w v r) {b : Nat} {z : ByteArray} (hx : a.eval x = .slice (some ⟨b, 0, none⟩) 1 1) (hc : w.cell? ⟨b, 0, none⟩ = some (.string z)) (hl : r.length ≤ 1000000000) (hB : B ≤ w.heap.size)
  (h : ∀ g cap w', StrO B w' (slv g (r.length + 1) cap) (r ++ [z]) → Below B w w' → w.grownBy w' v.ownBlock → wpList Tryz.prog ops Q rest (a.put o.dst (slv g (r.length + 1) cap)) w') : wpList Tryz.prog ops Q (o :: rest) a w := by
 obtain ⟨i0, hi, hz0, hz1, hz2⟩ := info_parts Tryz.infoByt
 refine wpList_append_lies w hgd s x t ho B 9 i0 _ 1 16 ht hi hz0 hz1 hz2 rfl (by omega) v r.length (r.map Value.string) hs hown ⟨b, 0, none⟩ 1 1 [.string z] hx rfl ?_ (one_byt z) (by omega) (by unfold maxLen; omega) (by omega) hB w.heap.size rfl ?_
 ·intro j u hj
  have : j = 0 := by have := (List.getElem?_eq_some_iff.1 hj).1; simp at this; omega
  subst this
  simp only [List.getElem?_cons_zero, Option.some.injEq] at hj
  subst hj
  simpa [Addr.add_lit] using hc
 ·intro g cap w' h1 h2 h3 h4
  refine h g cap w' ?_ (Below.grown (Below.refl _ _) h2 hB (fun q hq => (World.ownsRow.lt hown q hq).1)) h2
  unfold StrO
  rw [List.map_append, List.length_append]; exact h1
end
def tmX (p : Int) (r : Rat) : List UInt8 := if r = 1 then Lib.itoa p else if r.den = 1 ∧ 0 < r.num then Lib.itoa p ++ 94 :: frT r else Lib.itoa p ++ 94 :: 40 :: (frT r ++ [41])
def szX (P : List Int) (l : List Rat) : Nat → List ByteArray
 | 0 => []
 | k + 1 => szX P l k ++ (if l.getD k 0 = 0 then [] else [⟨(tmX (P.getD k 0) (l.getD k 0)).toArray⟩])
theorem szX_le (P : List Int) (l : List Rat) : ∀ k, (szX P l k).length ≤ k
 | 0 => Nat.le_refl _
 | k + 1 => by
  rw [szX, List.length_append]
  have := szX_le P l k
  split <;> simp <;> omega
theorem frT_len {r : Rat} (h : nd r.num ≤ 30 ∧ nd r.den ≤ 30) : (frT r).length ≤ 63 := by
 have l1 := itoa_len r.num
 have l2 := itoa_len (r.den : Int)
 unfold frT
 split
 ·omega
 ·rw [List.length_append, List.length_cons]; omega
theorem tmX_len {p : Int} {r : Rat} (h : nd r.num ≤ 30 ∧ nd r.den ≤ 30) (hp : (Lib.itoa p).length ≤ 21) : (tmX p r).length ≤ 90 := by
 have := frT_len h
 unfold tmX
 split
 ·omega
 ·split <;> simp <;> omega
theorem szX_len {P : List Int} {l : List Rat} (h : ShQ l) (hp : ∀ k, (Lib.itoa (P.getD k 0)).length ≤ 21) : ∀ k, ∀ x ∈ szX P l k, x.data.toList.length ≤ 90
 | 0, x, hx => by simp [szX] at hx
 | k + 1, x, hx => by
  rw [szX] at hx
  rcases List.mem_append.1 hx with h1 | h1
  ·exact szX_len h hp k x h1
  ·split at h1
   ·simp at h1
   ·rename_i h0
    simp only [List.mem_cons, List.not_mem_nil, or_false] at h1
    subst h1
    show (tmX (P.getD k 0) (l.getD k 0)).toArray.toList.length ≤ 90
    rw [List.toList_toArray]
    refine tmX_len ?_ (hp k)
    rw [List.getD_eq_getElem?_getD]
    by_cases hk : k < l.length
    ·rw [List.getElem?_eq_getElem hk]; exact h _ (List.getElem_mem hk)
    ·rw [List.getElem?_eq_none (by omega)]
     exact ⟨by show nd (0 : Rat).num ≤ 30; rw [show (0 : Rat).num = 0 from rfl, nd_0]; omega, by show nd ((0 : Rat).den : Int) ≤ 30; rw [show (((0 : Rat).den : Nat) : Int) = 1 from rfl, nd_1]; omega⟩
theorem joinTailA_le {b : Nat} (s : List UInt8) : ∀ {r : List (List UInt8)}, (∀ x ∈ r, x.length ≤ b) → (Lib.joinTail s r).length ≤ (b + s.length) * r.length
 | [], _ => by simp [Lib.joinTail]
 | x :: t, h => by
  have h1 := joinTailA_le s (r := t) (fun y hy => h y (by simp [hy]))
  have h2 := h x (by simp)
  have e : Lib.joinTail s (x :: t) = (s ++ x) ++ Lib.joinTail s t := by simp [Lib.joinTail]
  rw [e, List.length_append, List.length_append]
  simp only [List.length_cons, Nat.mul_succ]
  omega
theorem joinA_le {b : Nat} (s : List UInt8) {r : List (List UInt8)} (h : ∀ x ∈ r, x.length ≤ b) : (Lib.join r s).length ≤ (b + s.length) * r.length := by
 cases r with
 | nil => simp [Lib.join_nil]
 | cons x t =>
  rw [Lib.join_cons, List.length_append]
  simp only [List.length_cons, Nat.mul_succ]
  have h1 := joinTailA_le s (r := t) (fun y hy => h y (by simp [hy]))
  have h2 := h x (by simp)
  omega
def joinA (xs : List ByteArray) (s : List UInt8) : ByteArray := ⟨(Lib.join (xs.map (·.data.toList)) s).toArray⟩
theorem joinA_any {w : World} {B L g cap : Nat} {xs : List ByteArray} {s : List UInt8} (h : StrO B w (slv g L cap) xs) (hL : xs.length = L) (h0 : 0 < L) (h1 : L ≤ 1000) (hj : (Lib.join (xs.map (·.data.toList)) s).length ≤ 1000000) :
  Calls Tryz.prog 90 #[slv g L cap, .string ⟨s.toArray⟩] w fun e w' => e = .returned (.string (joinA xs s)) ∧ Ext w w' := by
 subst hL
 obtain ⟨g', cap', e, hc, hg, hx⟩ := h.shape h0
 injection e with e1 e2 e3
 injection e1 with e1
 injection e1 with e1
 subst e1 e3
 have := Tryz.strings_Join g 0 cap xs ⟨s.toArray⟩ w hx hg (by omega) hc (by show (Lib.join _ s.toArray.toList).length ≤ _; rw [List.toList_toArray]; omega)
 rw [show ((⟨s.toArray⟩ : ByteArray).data.toList) = s from List.toList_toArray] at this
 exact this
theorem StrO.sh {w : World} {B L : Nat} {v : Value} {xs : List ByteArray} (h : StrO B w v xs) (hL : xs.length = L) (h0 : 0 < L) : ∃ g cap, v = slv g L cap := by
 subst hL
 obtain ⟨g, cap, e, _⟩ := h.shape h0
 exact ⟨g, cap, e⟩
theorem StrO.slice {B : Nat} {w : World} {v : Value} {xs : List ByteArray} (h : StrO B w v xs) : ∃ a c, v = .slice a xs.length c := by
 rcases h.2 with ⟨rfl, h0⟩ | ⟨g, cap, cur, rfl, _⟩
 ·exact ⟨_, _, by rw [h0]⟩
 ·exact ⟨_, _, rfl⟩
def szTx (P : List Int) (l : List Rat) : ByteArray := if szX P l l.length = [] then ⟨#[49]⟩ else joinA (szX P l l.length) [32]
theorem number13_one {w : World} (hL : Laid w) : Calls Tryz.prog 67 #[.int .i64 1] w fun e w' => e = .returned (.agg #[.string ⟨#[49]⟩, .string ⟨#[49]⟩]) ∧ Ext w w' := by
 have h := number13_any (n := 1) (by omega) hL
 have hv : RV ((1 : Int) : Rat) = .agg #[.string ⟨#[49]⟩, .string ⟨#[49]⟩] := by
  show Value.agg #[I (((1 : Int) : Rat)).num, I ((((1 : Int) : Rat)).den : Int)] = _
  rw [show (((1 : Int) : Rat)).num = 1 from rfl, show (((((1 : Int) : Rat)).den : Nat) : Int) = 1 from rfl]
  unfold I S; rw [itoa_one]
 rw [hv] at h; exact h
theorem itoa_len64 {z : Int} (h : I64 z) : (Lib.itoa z).length ≤ 21 := by
 have h1 := itoa_len z
 have h2 : nd z ≤ 19 := nDigits_le (u := z.natAbs) (k := 19) (by unfold I64 at h; omega) (by omega)
 omega
theorem rat_zero_num {r : Rat} : r = 0 ↔ r.num = 0 := ⟨fun h => by rw [h]; rfl, fun h => by
 have := rat_parts r
 rw [h] at this
 grind⟩
theorem rat_one_iff {r : Rat} : r = 1 ↔ r.num = 1 ∧ r.den = 1 := ⟨fun h => by rw [h]; exact ⟨rfl, rfl⟩, fun h => Rat.ext h.1 h.2⟩
set_option maxHeartbeats 4000000 in
theorem szText_any {w : World} {pa : Option Addr} {np cp : Nat} {v : Value} {P : List Int} {l : List Rat} (hP : RowR w (.slice pa np cp) P) (hpc : ∀ W, Ext w W → Calls Tryz.prog 50 #[.slice pa np cp] W fun e w' => e = .returned (.int .i64 0) ∧ Ext W w') (hs : SzR w v l) (hl : l.length = np) (hb : ShQ l) (h64 : ∀ z ∈ P, I64 z) (h1000 : np ≤ 1000) (hL : Laid w) :
  Calls Tryz.prog 89 #[.slice pa np cp, v] w fun e w' => e = .returned (.tuple #[.string (szTx P l), .int .i64 0]) ∧ Ext w w' := by
 have hck := Lib.hid (szCheck_all (pa := pa) (cp := cp) hpc hs hl (shQ_nd hb (by omega)) (by omega) hL)
 rw [szE_sh hb] at hck
 obtain ⟨pa', gp, op, cp', ep, hpcap, hSp⟩ := hP
 injection ep with ep1 ep2 ep3
 subst ep1 ep3
 have HSp := Lib.hid hSp
 have Hnp := Lib.hid ep2
 obtain ⟨sa, gb, go, cap, rfl, hc, ha, hr⟩ := hs
 have Hr := Lib.hid hr
 have Ha := Lib.hid ha
 have Hb := Lib.hid hb
 have H64 := Lib.hid h64
 have HL := Lib.hid hL
 have Hl := Lib.hid hl
 have Hle := Lib.hid (szX_le P l)
 have Hlen := Lib.hid (szX_len (P := P) hb (fun k => by
  rw [List.getD_eq_getElem?_getD]
  by_cases hk : k < P.length
  ·rw [List.getElem?_eq_getElem hk]; exact itoa_len64 (h64 _ (List.getElem_mem hk))
  ·rw [List.getElem?_eq_none (by omega)]; show (Lib.itoa 0).length ≤ 21; rw [itoa_zero]; decide))
 have Htx := Lib.hid (show szTx P l = if szX P l l.length = [] then ⟨#[49]⟩ else joinA (szX P l l.length) [32] from rfl)
 generalize szTx P l = tx at *
 rw [hl] at hck hc ⊢
 rw [hl] at Htx
 clear hr ha hb hL hl h64 hSp ep2 hpc hc hpcap
 go_enter Tryz.func89, Tryz.ntmps89
 go_wp2_with fail
 refine hck.out.mono ?_
 rintro e w0 ⟨rfl, hE0⟩
 clear hck
 go_wp2_with fail
 go_loopw [7, 19] (fun u iv wr => ∃ i : Nat, i ≤ np ∧ iv = .int .i64 i ∧ Hid (StrO w.heap.size wr u (szX P l i)) ∧ Ext w wr) (fun _ iv _ => np - (intOf iv).toNat)
 case atStart => exact ⟨0, by omega, by go_num, Lib.hid (StrO.nil _ _), hE0⟩
 case round =>
  obtain ⟨i, hi, rfl, HV, hE⟩ := hrel
  generalize wr = X at *
  by_cases hlt : i < np
  ·have hii : (i : Int) < (np : Int) := by omega
   have hil : i < l.length := by rw [Hl.out]; exact hlt
   have hip : i < P.length := by rw [← Hnp.out]; exact hlt
   obtain rfl := Ha.out (by omega)
   obtain rfl := HSp.out.addr (by simp; omega)
   obtain ⟨k0, k1⟩ := Hr.out i hil
   have k2 := HSp.out.cell i (.int .i64 P[i]) (is_get hip)
   have y0 := hE.cell k0
   have y1 := hE.cell k1
   have y2 := hE.cell k2
   have hbr := Hb.out l[i] (List.getElem_mem hil)
   have hp64 := H64.out P[i] (List.getElem_mem hip)
   have Hsn : Hid (szX P l (i + 1) = szX P l i ++ (if l[i] = 0 then [] else [⟨(tmX P[i] l[i]).toArray⟩])) := Lib.hid (by
    rw [szX, List.getD_eq_getElem?_getD, List.getElem?_eq_getElem hil, List.getD_eq_getElem?_getD, List.getElem?_eq_getElem hip]; rfl)
   obtain ⟨r, hr⟩ : ∃ r, r = l[i] := ⟨_, rfl⟩
   obtain ⟨p, hp⟩ : ∃ p, p = P[i] := ⟨_, rfl⟩
   rw [← hr] at y0 y1 hbr Hsn
   rw [← hp] at y2 hp64 Hsn
   have hit := Lib.hid (fun W (hW : Ext X W) => Itoa_any (n := p) hp64.1 hp64.2 (HL.out.ext (hE.trans hW)))
   have hft : Hid (∀ W, Calls Tryz.prog 152 #[.agg #[I r.num, I r.den]] W fun e w' => e = .returned (S (frT r)) ∧ Ext W w') := Lib.hid (fun W => fText_any (r := r) ⟨by omega, by omega⟩ W)
   have hsg := Lib.hid (fun W => Sign_any r.num W)
   have hn1 := Lib.hid (fun W (hW : Ext X W) => number13_one (HL.out.ext (hE.trans hW)))
   have lf := frT_len hbr
   have lp := itoa_len64 hp64
   have dA := (Ext.refl X).alloc (.cells #[I r.num, I r.den] 63)
   have hOn := two_alloc X 63 (I r.num) (I r.den)
   have z0 := hOn.cell (j := 0) (by simp)
   have z1 := hOn.cell (j := 1) (by simp)
   simp only [List.getElem_cons_zero, List.getElem_cons_succ] at z0 z1
   have e0 := itoa_eq_zero r.num
   have e1 := itoa_eq_1 r.num
   have e2 := itoa_eq_1 (r.den : Int)
   have hXs := hE.size
   have HXs := Lib.hid hXs
   have hll := Lib.hid (Hle.out i)
   have Htm : Hid (tmX p r = if r = 1 then Lib.itoa p else if r.den = 1 ∧ 0 < r.num then Lib.itoa p ++ 94 :: frT r else Lib.itoa p ++ 94 :: 40 :: (frT r ++ [41])) := Lib.hid rfl
   have Hz := Lib.hid (rat_zero_num (r := r))
   have H1 := Lib.hid (rat_one_iff (r := r))
   clear k0 k1 k2 hbr hp64 hr hp hOn hil hip hXs
   unfold I S at y0 y1 z0 z1 hft hsg hit dA
   obtain ⟨zn, hzn⟩ : ∃ z, z = r.num := ⟨_, rfl⟩
   obtain ⟨zd, hzd⟩ : ∃ z, z = r.den := ⟨_, rfl⟩
   simp only [← hzn, ← hzd] at y0 y1 z0 z1 hft hsg hit e0 e1 e2 Htm H1 Hz dA
   generalize Lib.itoa zn = ln at *
   generalize Lib.itoa (zd : Int) = ld at *
   generalize frT r = ft at *
   generalize Lib.itoa p = tp at *
   generalize tmX p r = tm at *
   clear hzn hzd
   obtain ⟨b9, hb9⟩ : ∃ b, b = X.heap.size := ⟨_, rfl⟩
   have Hb9 := Lib.hid hb9
   have y3 := dA.cell y2
   rw [← hb9] at z0 z1
   have Hi1 := Lib.hid (fun (h : (i : Int) < np) => show (i : Int) + 1 ≤ np by omega)
   clear hb9
   by_cases hz0 : zn = 0
   ·rw [decide_eq_true hz0] at e0
    have Hsn := Lib.hid (show szX P l (i + 1) = szX P l i by rw [Hsn.out, if_pos (Hz.out.2 hz0), List.append_nil])
    clear hz0 hft hsg hn1 e1 e2 Htm H1 Hz
    go_wp2_with fail
    rw [← Hb9.out]
    generalize X.alloc (.cells #[.string ⟨ln.toArray⟩, .string ⟨ld.toArray⟩] 63) = XA at *
    refine (hit.out _ dA).mono ?_
    rintro e XB ⟨rfl, hB⟩
    have eB := dA.trans hB
    replace z0 := hB.cell z0
    replace z1 := hB.cell z1
    clear hit hB dA y0 y1 y2 y3
    go_wp2_with fail
    go_roundw
    case rel => exact ⟨i + 1, by omega, by go_num, Lib.hid (by rw [Hsn.out]; exact HV.out.ext eB), hE.trans eB⟩
    case measure => simp [intOf] <;> omega
   ·rw [decide_eq_false hz0] at e0
    have Hsn := Lib.hid (show szX P l (i + 1) = szX P l i ++ [⟨tm.toArray⟩] by rw [Hsn.out, if_neg (fun h => hz0 (Hz.out.1 h))])
    go_wp2_with fail
    rw [← Hb9.out]
    generalize X.alloc (.cells #[.string ⟨ln.toArray⟩, .string ⟨ld.toArray⟩] 63) = XA at *
    refine (hit.out _ dA).mono ?_
    rintro e XB ⟨rfl, hB⟩
    have eB := dA.trans hB
    replace z0 := hB.cell z0
    replace z1 := hB.cell z1
    clear hit hB dA y0 y1 y2 y3
    by_cases hr1 : zn = 1 ∧ zd = 1
    ·obtain ⟨h1, h2⟩ := hr1
     rw [decide_eq_true h1] at e1
     rw [decide_eq_true (show (zd : Int) = 1 by omega)] at e2
     obtain rfl : ln = [49] := by simpa using e1
     obtain rfl : ld = [49] := by simpa using e2
     have Htm := Lib.hid (show tm = tp by rw [Htm.out, if_pos (H1.out.2 ⟨h1, h2⟩)])
     clear e0 e1 e2 h1 h2 H1 Hz hz0 hft hsg
     go_wp2_with fail
     have d0 : Ext XB XB.drew := (Ext.refl XB).drew
     refine wp_region_held_tail (S := fun W => Ext XB W) 3 (by kernel_rfl) (by simp) ?_
     intro inv
     generalize XB.drew = XC at *
     refine wpAnyLH_take (i := 0) (v := .agg #[.string ⟨#[49]⟩, .string ⟨#[49]⟩]) rfl (by kernel_rfl) (fun _ _ _ h => h) (.inl ⟨by rfl, fun W hW => by have q0 := hW.cell z0; have q1 := hW.cell z1; go_simp⟩) d0 inv ?_
     intro inv
     go_simp
     refine wpAnyLH_oneI (i := 1) rfl (by kernel_rfl) inv (fun inv K0 hK0 => ?_)
     go_simp
     refine (hn1.out _ (eB.trans d0)).mono ?_
     rintro e XD ⟨rfl, hG1⟩
     have d1 := d0.trans hG1
     refine hK0 _ _ d1 ?_
     clear hK0
     refine wpAnyLH_take (i := 2) (v := .bool true) rfl (by kernel_rfl) (fun _ _ _ h => h) (.inl ⟨by rfl, fun W hW => by go_simp⟩) d1 inv ?_
     intro inv
     go_simp
     refine wpAnyLH_end (by kernel_rfl) ?_
     replace z0 := d1.cell z0
     replace z1 := d1.cell z1
     have eD := eB.trans d1
     clear inv d0 d1 hG1 hn1 eB
     have eW : Ext X XD := eD
     generalize XD = W at *
     clear eD z0 z1
     have HVZ := Lib.hid (HV.out.ext (eW.alloc (.cells #[Value.string (⟨tp.toArray⟩)] 9)))
     have hWs : w.heap.size ≤ W.heap.size := by have := HXs.out; have := eW.size; omega
     go_wp2_with (at_builtin; refine app_str rfl _ _ 138 Tryz.underlying138 rfl (B := w.heap.size) rfl HVZ.out (b := W.heap.size) (z := ⟨tp.toArray⟩) rfl (by go_simp) (by have := hll.out; omega) (by simp; omega) ?_; intro g9 cap9 w9 hO9 hB9 _; rw [show ((⟨tp.toArray⟩) : ByteArray) = ⟨tm.toArray⟩ from by rw [Htm.out]] at hO9; have HO9 := Lib.hid (show StrO w.heap.size w9 _ (szX P l (i + 1)) by rw [Hsn.out]; exact hO9); have e9 := Below.trans (hE.trans (eW.alloc (.cells #[Value.string (⟨tp.toArray⟩)] 9))) hB9; clear hO9 hB9)
     go_wp2_with fail
     go_roundw
     case rel => exact ⟨i + 1, by omega, by go_num, HO9, e9⟩
     case measure => simp [intOf] <;> omega
    ·have Htm := Lib.hid (show tm = if zd = 1 ∧ 0 < zn then tp ++ 94 :: ft else tp ++ 94 :: 40 :: (ft ++ [41]) by rw [Htm.out, if_neg (fun h => hr1 (H1.out.1 h))])
     clear H1 Hz
     by_cases hd1 : zd = 1
     ·rw [decide_eq_true (show (zd : Int) = 1 by omega)] at e2
      rw [decide_eq_false (fun h => hr1 ⟨h, hd1⟩)] at e1
      obtain rfl : ld = [49] := by simpa using e2
      have nl : ¬ ln = [49] := by simpa using e1
      clear e1 e2 hr1
      go_wp2_with fail
      have d0 : Ext XB XB.drew := (Ext.refl XB).drew
      refine wp_region_held_tail (S := fun W => Ext XB W) 3 (by kernel_rfl) (by simp) ?_
      intro inv
      generalize XB.drew = XC at *
      refine wpAnyLH_take (i := 0) (v := .agg #[.string ⟨ln.toArray⟩, .string ⟨#[49]⟩]) rfl (by kernel_rfl) (fun _ _ _ h => h) (.inl ⟨by rfl, fun W hW => by have q0 := hW.cell z0; have q1 := hW.cell z1; go_simp⟩) d0 inv ?_
      intro inv
      go_simp
      refine wpAnyLH_oneI (i := 1) rfl (by kernel_rfl) inv (fun inv K0 hK0 => ?_)
      go_simp
      refine (hn1.out _ (eB.trans d0)).mono ?_
      rintro e XD ⟨rfl, hG1⟩
      have d1 := d0.trans hG1
      refine hK0 _ _ d1 ?_
      clear hK0
      refine wpAnyLH_take (i := 2) (v := .bool false) rfl (by kernel_rfl) (fun _ _ _ h => h) (.inl ⟨by rfl, fun W hW => by go_simp⟩) d1 inv ?_
      intro inv
      go_simp
      refine wpAnyLH_end (by kernel_rfl) ?_
      replace z0 := d1.cell z0
      replace z1 := d1.cell z1
      have eD := eB.trans d1
      clear inv d0 d1 hG1 hn1 eB
      by_cases hs : 0 < zn
      ·have Htm := Lib.hid (show tm = tp ++ 94 :: ft by rw [Htm.out, if_pos ⟨hd1, hs⟩])
       rw [Int.sign_eq_one_of_pos hs] at hsg
       clear hs hd1 hz0
       go_wp2_with fail
       refine (hsg.out _).mono ?_
       rintro e XE ⟨rfl, hE3⟩
       replace z0 := hE3.cell z0
       replace z1 := hE3.cell z1
       replace eD := eD.trans hE3
       clear hsg hE3
       go_wp2_with fail
       refine (hft.out _).mono ?_
       rintro e W ⟨rfl, hW⟩
       have eW := eD.trans hW
       clear hft hW z0 z1 eD
       have HVZ := Lib.hid (HV.out.ext (eW.alloc (.cells #[Value.string ((⟨tp.toArray⟩ : ByteArray) ++ ((⟨#[94]⟩ : ByteArray) ++ (⟨ft.toArray⟩ : ByteArray)))] 9)))
       have hWs : w.heap.size ≤ W.heap.size := by have := HXs.out; have := eW.size; omega
       go_wp2_with (at_builtin; refine app_str rfl _ _ 138 Tryz.underlying138 rfl (B := w.heap.size) rfl HVZ.out (b := W.heap.size) (z := (⟨tp.toArray⟩ : ByteArray) ++ ((⟨#[94]⟩ : ByteArray) ++ (⟨ft.toArray⟩ : ByteArray))) rfl (by go_simp) (by have := hll.out; omega) (by simp; omega) ?_; intro g9 cap9 w9 hO9 hB9 _; rw [show (((⟨tp.toArray⟩ : ByteArray) ++ ((⟨#[94]⟩ : ByteArray) ++ (⟨ft.toArray⟩ : ByteArray))) : ByteArray) = ⟨tm.toArray⟩ from (by show (⟨tp.toArray⟩ : ByteArray) ++ (⟨[94].toArray⟩ ++ ⟨ft.toArray⟩) = _; rw [ba_app, ba_app, Htm.out]; rfl)] at hO9; have HO9 := Lib.hid (show StrO w.heap.size w9 _ (szX P l (i + 1)) by rw [Hsn.out]; exact hO9); have e9 := Below.trans (hE.trans (eW.alloc (.cells #[Value.string ((⟨tp.toArray⟩ : ByteArray) ++ ((⟨#[94]⟩ : ByteArray) ++ (⟨ft.toArray⟩ : ByteArray)))] 9))) hB9; clear hO9 hB9)
       go_wp2_with fail
       go_roundw
       case rel => exact ⟨i + 1, by omega, by go_num, HO9, e9⟩
       case measure => simp [intOf] <;> omega
      ·have Htm := Lib.hid (show tm = tp ++ 94 :: 40 :: (ft ++ [41]) by rw [Htm.out, if_neg (fun h => hs h.2)])
       rw [Int.sign_eq_neg_one_of_neg (show zn < 0 by omega)] at hsg
       clear hs hd1 hz0
       go_wp2_with fail
       refine (hsg.out _).mono ?_
       rintro e XE ⟨rfl, hE3⟩
       replace z0 := hE3.cell z0
       replace z1 := hE3.cell z1
       replace eD := eD.trans hE3
       clear hsg hE3
       go_wp2_with fail
       refine (hft.out _).mono ?_
       rintro e W ⟨rfl, hW⟩
       have eW := eD.trans hW
       clear hft hW z0 z1 eD
       have HVZ := Lib.hid (HV.out.ext (eW.alloc (.cells #[Value.string ((⟨tp.toArray⟩ : ByteArray) ++ ((⟨#[94, 40]⟩ : ByteArray) ++ (⟨ft.toArray⟩ : ByteArray) ++ (⟨#[41]⟩ : ByteArray)))] 9)))
       have hWs : w.heap.size ≤ W.heap.size := by have := HXs.out; have := eW.size; omega
       go_wp2_with (at_builtin; refine app_str rfl _ _ 138 Tryz.underlying138 rfl (B := w.heap.size) rfl HVZ.out (b := W.heap.size) (z := (⟨tp.toArray⟩ : ByteArray) ++ ((⟨#[94, 40]⟩ : ByteArray) ++ (⟨ft.toArray⟩ : ByteArray) ++ (⟨#[41]⟩ : ByteArray))) rfl (by go_simp) (by have := hll.out; omega) (by simp; omega) ?_; intro g9 cap9 w9 hO9 hB9 _; rw [show (((⟨tp.toArray⟩ : ByteArray) ++ ((⟨#[94, 40]⟩ : ByteArray) ++ (⟨ft.toArray⟩ : ByteArray) ++ (⟨#[41]⟩ : ByteArray))) : ByteArray) = ⟨tm.toArray⟩ from (by show (⟨tp.toArray⟩ : ByteArray) ++ (⟨[94, 40].toArray⟩ ++ ⟨ft.toArray⟩ ++ ⟨[41].toArray⟩) = _; rw [ba_app, ba_app, ba_app, Htm.out, List.append_assoc]; rfl)] at hO9; have HO9 := Lib.hid (show StrO w.heap.size w9 _ (szX P l (i + 1)) by rw [Hsn.out]; exact hO9); have e9 := Below.trans (hE.trans (eW.alloc (.cells #[Value.string ((⟨tp.toArray⟩ : ByteArray) ++ ((⟨#[94, 40]⟩ : ByteArray) ++ (⟨ft.toArray⟩ : ByteArray) ++ (⟨#[41]⟩ : ByteArray)))] 9))) hB9; clear hO9 hB9)
       go_wp2_with fail
       go_roundw
       case rel => exact ⟨i + 1, by omega, by go_num, HO9, e9⟩
       case measure => simp [intOf] <;> omega
     ·rw [decide_eq_false (show ¬ (zd : Int) = 1 by omega)] at e2
      have nd : ¬ ld = [49] := by simpa using e2
      have Htm := Lib.hid (show tm = tp ++ 94 :: 40 :: (ft ++ [41]) by rw [Htm.out, if_neg (fun h => hd1 h.1)])
      clear e1 hr1 hd1 hz0 hsg
      go_wp2_with fail
      have d0 : Ext XB XB.drew := (Ext.refl XB).drew
      refine wp_region_held_tail (S := fun W => Ext XB W) 3 (by kernel_rfl) (by simp) ?_
      intro inv
      generalize XB.drew = XC at *
      refine wpAnyLH_take (i := 0) (v := .agg #[.string ⟨ln.toArray⟩, .string ⟨ld.toArray⟩]) rfl (by kernel_rfl) (fun _ _ _ h => h) (.inl ⟨by rfl, fun W hW => by have q0 := hW.cell z0; have q1 := hW.cell z1; go_simp⟩) d0 inv ?_
      intro inv
      go_simp
      refine wpAnyLH_oneI (i := 1) rfl (by kernel_rfl) inv (fun inv K0 hK0 => ?_)
      go_simp
      refine (hn1.out _ (eB.trans d0)).mono ?_
      rintro e XD ⟨rfl, hG1⟩
      have d1 := d0.trans hG1
      refine hK0 _ _ d1 ?_
      clear hK0
      refine wpAnyLH_take (i := 2) (v := .bool false) rfl (by kernel_rfl) (fun _ _ _ h => h) (.inl ⟨by rfl, fun W hW => by by_cases hl : ln = [49] <;> go_simp⟩) d1 inv ?_
      intro inv
      go_simp
      refine wpAnyLH_end (by kernel_rfl) ?_
      replace z0 := d1.cell z0
      replace z1 := d1.cell z1
      have eD := eB.trans d1
      clear inv d0 d1 hG1 hn1 eB
      go_wp2_with fail
      refine (hft.out _).mono ?_
      rintro e W ⟨rfl, hW⟩
      have eW := eD.trans hW
      clear hft hW z0 z1 eD
      have HVZ := Lib.hid (HV.out.ext (eW.alloc (.cells #[Value.string ((⟨tp.toArray⟩ : ByteArray) ++ ((⟨#[94, 40]⟩ : ByteArray) ++ (⟨ft.toArray⟩ : ByteArray) ++ (⟨#[41]⟩ : ByteArray)))] 9)))
      have hWs : w.heap.size ≤ W.heap.size := by have := HXs.out; have := eW.size; omega
      go_wp2_with (at_builtin; refine app_str rfl _ _ 138 Tryz.underlying138 rfl (B := w.heap.size) rfl HVZ.out (b := W.heap.size) (z := (⟨tp.toArray⟩ : ByteArray) ++ ((⟨#[94, 40]⟩ : ByteArray) ++ (⟨ft.toArray⟩ : ByteArray) ++ (⟨#[41]⟩ : ByteArray))) rfl (by go_simp) (by have := hll.out; omega) (by simp; omega) ?_; intro g9 cap9 w9 hO9 hB9 _; rw [show (((⟨tp.toArray⟩ : ByteArray) ++ ((⟨#[94, 40]⟩ : ByteArray) ++ (⟨ft.toArray⟩ : ByteArray) ++ (⟨#[41]⟩ : ByteArray))) : ByteArray) = ⟨tm.toArray⟩ from (by show (⟨tp.toArray⟩ : ByteArray) ++ (⟨[94, 40].toArray⟩ ++ ⟨ft.toArray⟩ ++ ⟨[41].toArray⟩) = _; rw [ba_app, ba_app, ba_app, Htm.out, List.append_assoc]; rfl)] at hO9; have HO9 := Lib.hid (show StrO w.heap.size w9 _ (szX P l (i + 1)) by rw [Hsn.out]; exact hO9); have e9 := Below.trans (hE.trans (eW.alloc (.cells #[Value.string ((⟨tp.toArray⟩ : ByteArray) ++ ((⟨#[94, 40]⟩ : ByteArray) ++ (⟨ft.toArray⟩ : ByteArray) ++ (⟨#[41]⟩ : ByteArray)))] 9))) hB9; clear hO9 hB9)
      go_wp2_with fail
      go_roundw
      case rel => exact ⟨i + 1, by omega, by go_num, HO9, e9⟩
      case measure => simp [intOf] <;> omega
  ·obtain rfl : i = np := by omega
   have hii : ¬ (i : Int) < (i : Int) := by omega
   have hxl := Hle.out i
   obtain ⟨xs, hxs⟩ : ∃ xs, xs = szX P l i := ⟨_, rfl⟩
   have hlen := Hlen.out i
   rw [← hxs] at HV Htx hxl hlen
   clear hxs hlt Hle Hlen
   by_cases h0 : xs = []
   ·rw [if_pos h0] at Htx
    subst h0
    obtain ⟨ua, uc, rfl⟩ := HV.out.slice
    rw [List.length_nil] at *
    go_wp2_with fail
    go_ret2
    exact ⟨ret_val (congrArg (fun z => Value.tuple #[.string z, .int .i64 0]) Htx.out.symm), hE⟩
   ·rw [if_neg h0] at Htx
    have hpos : 0 < xs.length := List.length_pos_iff.2 h0
    obtain ⟨g, cap', rfl⟩ := HV.out.sh rfl hpos
    have hj := Lib.hid (joinA_any (s := [32]) HV.out rfl hpos (by omega) (by
     have := joinA_le (b := 90) [32] (r := xs.map (·.data.toList)) (fun x hx => by
      obtain ⟨y, hy, rfl⟩ := List.mem_map.1 hx
      exact hlen y hy)
     rw [List.length_map] at this
     simp only [List.length_cons, List.length_nil] at this
     omega))
    obtain ⟨n, hn⟩ : ∃ n, n = xs.length := ⟨_, rfl⟩
    rw [← hn] at hj hpos ⊢
    have hnI : ((n : Int) == 0) = false := beq_eq_false_iff_ne.2 (by omega)
    have hnJ : ¬ (n : Int) = 0 := by omega
    clear hn h0 hlen hxl
    go_wp2_with fail
    refine hj.out.mono ?_
    rintro e W ⟨rfl, hW⟩
    go_wp2_with fail
    go_ret2
    exact ⟨ret_val (congrArg (fun z => Value.tuple #[.string z, .int .i64 0]) Htx.out.symm), hE.trans hW⟩
theorem sz2N {W : World} {b : Nat} {r0 r1 : Rat} (h0 : W.cell? ⟨b, 0, none⟩ = some (I r0.num)) (h1 : W.cell? ⟨b, 1, none⟩ = some (I r0.den)) (h2 : W.cell? ⟨b, 2, none⟩ = some (I r1.num)) (h3 : W.cell? ⟨b, 3, none⟩ = some (I r1.den)) : SzR W (.slice (some ⟨b, 0, none⟩) 2 2) [r0, r1] := by
 refine ⟨_, b, 0, 2, rfl, Nat.le_refl _, fun _ => rfl, fun i hi => ?_⟩
 have hi3 : i < 2 := hi
 rcases (show i = 0 ∨ i = 1 by omega) with rfl | rfl
 ·exact ⟨h0, h1⟩
 ·exact ⟨h2, h3⟩
theorem SzR.slice {w : World} {v : Value} {l : List Rat} (h : SzR w v l) : ∃ a c, v = .slice a l.length c := by
 obtain ⟨a, b, g0, c, e, _⟩ := h
 exact ⟨a, c, e⟩
def addL (n : Nat) (a b : List Rat) : List Rat := (List.range n).map fun c => a.getD c 0 + b.getD c 0
theorem addL_cmb (a b : List Rat) (n : Nat) : cmbQ [a, b] [1, 1] n = addL n a b := by
 refine List.ext_getElem (by simp [addL]) fun c h1 h2 => ?_
 rw [cmbQ_get]
 simp only [addL, List.getElem_map, List.getElem_range]
 show ((0 + a.getD c 0 * 1) + b.getD c 0 * 1 : Rat) = a.getD c 0 + b.getD c 0
 grind
set_option maxHeartbeats 4000000 in
theorem szAdd_ok {w : World} {pa : Option Addr} {n cp : Nat} {va vb : Value} {la lb : List Rat} (hpc : ∀ W, Ext w W → Calls Tryz.prog 50 #[.slice pa n cp] W fun e w' => e = .returned (.int .i64 0) ∧ Ext W w') (ha : SzR w va la) (hb : SzR w vb lb) (hla : la.length = n) (hlb : lb.length = n) (hn : n ≤ 1000) (hna : ShQ la) (hnb : ShQ lb) (hR : ShQ (addL n la lb)) (hL : Laid w) :
  Calls Tryz.prog 17 #[.slice pa n cp, va, vb] w fun e w' => (∃ g, e = .returned (.tuple #[slv g n n, .int .i64 0]) ∧ SzO w.heap.size w' g (addL n la lb)) ∧ Ext w w' := by
 have hw1 := Lib.hid (fun W (hW : Ext w W) => number13_one (w := W) (hL.ext hW))
 have Ha := Lib.hid ha
 have Hb := Lib.hid hb
 have Hcm := Lib.hid (fun W v fv (hW : Ext w W) (hG : GnR W v [la, lb]) (hf : SzR W fv [1, 1]) => szCombine_ok (pa := pa) (cp := cp) (np := n) (fun W2 h2 => hpc W2 (hW.trans h2)) hG hf (by simp [hla, hlb]) (by simp) (fun l hl => by
  simp only [List.mem_cons, List.not_mem_nil, or_false] at hl
  rcases hl with rfl | rfl
  ·exact hna
  ·exact hnb) (fun r hr => by
  simp only [List.mem_cons, List.not_mem_nil, or_false] at hr
  rcases hr with rfl | rfl <;> exact NdQ.one (by omega)) hn (by simp) (by rw [addL_cmb]; exact hR) (hL.ext hW))
 rw [addL_cmb] at Hcm
 obtain ⟨xa, ca, rfl⟩ := ha.slice
 obtain ⟨xb, cb, rfl⟩ := hb.slice
 rw [hla, hlb] at *
 have hX := (Ext.refl w).alloc (.cells #[.slice xa n ca, .slice xb n cb] 52)
 have c0 : (w.alloc (.cells #[.slice xa n ca, .slice xb n cb] 52)).cell? ⟨w.heap.size, 0, none⟩ = some (.slice xa n ca) := by go_simp
 have c1 : (w.alloc (.cells #[.slice xa n ca, .slice xb n cb] 52)).cell? ⟨w.heap.size, 1, none⟩ = some (.slice xb n cb) := by go_simp
 have Hg := Lib.hid (gn2N c0 c1 (Ha.out.ext hX) (Hb.out.ext hX))
 clear hna hnb hL c0 c1 ha hb hpc hR
 go_enter Tryz.func17, Tryz.ntmps17
 go_wp2_with fail
 refine (hw1.out _ hX).mono ?_
 rintro e X1 ⟨rfl, hE1⟩
 have e1 := hX.trans hE1
 go_wp2_with fail
 refine (hw1.out _ e1).mono ?_
 rintro e X2 ⟨rfl, hE2⟩
 have e2 := e1.trans hE2
 have eA := (Ext.refl X2).alloc (.cells #[.string ⟨#[49]⟩, .string ⟨#[49]⟩, .string ⟨#[49]⟩, .string ⟨#[49]⟩] 63)
 have hf : SzR (X2.alloc (.cells #[.string ⟨#[49]⟩, .string ⟨#[49]⟩, .string ⟨#[49]⟩, .string ⟨#[49]⟩] 63)) (.slice (some ⟨X2.heap.size, 0, none⟩) 2 2) [1, 1] := sz2N (by rw [I_one1.1]; go_simp) (by rw [I_one1.2]; go_simp) (by rw [I_one1.1]; go_simp) (by rw [I_one1.2]; go_simp)
 have hc := Lib.hid (Hcm.out _ _ _ (e2.trans eA) (Hg.out.ext ((hE1.trans hE2).trans eA)) hf)
 have eB := e2.trans eA
 have HBs := Lib.hid eB.size
 clear hf hE1 hE2 e1 e2 eA hw1 Hcm Hg hX
 go_wp2_with fail
 refine hc.out.mono ?_
 rintro e X3 ⟨⟨g, rfl, _, hO⟩, hE3⟩
 have HO := Lib.hid (hO.mono (B' := w.heap.size) HBs.out)
 clear hO hc
 go_wp2_with fail
 go_ret2
 exact ⟨⟨g, rfl, HO.out⟩, eB.trans hE3⟩
end Go.Proofs.YtedlgnoiojcjaaaGreatDoor
