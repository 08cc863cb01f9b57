/- Part 2, beside the shared parts, of the proof of the claim: contracts and plain laws; no condition. -/
import Derived.Test.YtjnpakablgommaaGreatDoorX01
set_option maxRecDepth 100000
namespace Go.Proofs.YtjnpakablgommaaGreatDoor
open Go.RowKit Go.Sort
def denN:Nat→Int
 | 0=>1
 | 1=>2
 | 2=>3
 | 3=>4
 | 4=>6
 | _=>12
def frQ (a b:Int):Rat:=((a.tmod 41:Int):Rat)/((denN (b.tmod 6).toNat:Int):Rat)
set_option maxHeartbeats 2000000 in
theorem fr13_0 {a b k x y:Int} (hka:a.tmod 41=k) (hk : -40≤k∧k≤40) (hjb:b.tmod 6=0) {w:World}
  (hp : ∀ W,Ext w W→Calls Tryz.prog 158 #[.int .i64 k,.int .i64 1] W fun e w'=>e = .returned (.agg #[I x,I y])∧Ext W w') :
  Calls Tryz.prog 97 #[.agg #[.int .i8 a,.int .u8 b]] w fun e w'=>e = .returned (.agg #[I x,I y])∧Ext w w':=by
 have Hp:=Lib.hid hp
 have eX:=((Ext.refl w).alloc (.cells #[.int .i8 a,.int .u8 b] 53)).alloc (.cells #[.string ⟨#[]⟩,.string ⟨#[]⟩] 81)
 have p0:((w.alloc (.cells #[.int .i8 a,.int .u8 b] 53)).alloc (.cells #[.string ⟨#[]⟩,.string ⟨#[]⟩] 81)).cell? ⟨w.heap.size,0,none⟩=some (.int .i8 a):=by go_simp
 have p1:((w.alloc (.cells #[.int .i8 a,.int .u8 b] 53)).alloc (.cells #[.string ⟨#[]⟩,.string ⟨#[]⟩] 81)).cell? ⟨w.heap.size,1,none⟩=some (.int .u8 b):=by go_simp
 have hO0:=two_alloc (w.alloc (.cells #[.int .i8 a,.int .u8 b] 53)) 81 (.string ⟨#[]⟩) (.string ⟨#[]⟩)
 rw [show (w.alloc (.cells #[.int .i8 a,.int .u8 b] 53)).heap.size=w.heap.size+1 by simp] at hO0
 have HO:=Lib.hid (OwnV.mono hO0 (show w.heap.size≤w.heap.size+1 by omega))
 clear hO0
 clear hp
 go_enter Tryz.func97,Tryz.ntmps97
 go_wp2_with fail
 generalize hX0:(w.alloc (.cells #[.int .i8 a,.int .u8 b] 53)).alloc (.cells #[.string ⟨#[]⟩,.string ⟨#[]⟩] 81)=X at *
 clear hX0
 have dd:Ext X X.drew:=(Ext.refl X).drew
 refine wp_region_held_tail (S:=fun W=>Ext X W) 11 (by kernel_rfl) (by simp) ?_
 intro inv
 refine wpAnyLH_take (i:=0) (v := .pointer (some ⟨w.heap.size,0,none⟩)) rfl (by kernel_rfl) (fun _ _ _ h=>h) (.inl ⟨by rfl,fun W hW=>by have q0:=hW.cell p0; have q1:=hW.cell p1; go_simp⟩) dd inv ?_
 intro inv
 go_simp
 refine wpAnyLH_take (i:=1) (v := .int .i8 a) rfl (by kernel_rfl) (fun _ _ _ h=>h) (.inl ⟨by rfl,fun W hW=>by have q0:=hW.cell p0; have q1:=hW.cell p1; go_simp⟩) dd inv ?_
 intro inv
 go_simp
 refine wpAnyLH_take (i:=2) (v := .int .i8 k) rfl (by kernel_rfl) (fun _ _ _ h=>h) (.inl ⟨by rfl,fun W hW=>by have q0:=hW.cell p0; have q1:=hW.cell p1; go_simp⟩) dd inv ?_
 intro inv
 go_simp
 refine wpAnyLH_take (i:=3) (v := .int .i64 k) rfl (by kernel_rfl) (fun _ _ _ h=>h) (.inl ⟨by rfl,fun W hW=>by have q0:=hW.cell p0; have q1:=hW.cell p1; go_simp; rw [IntKind.wrap_i64]; omega⟩) dd inv ?_
 intro inv
 go_simp
 refine wpAnyLH_take (i:=5) (v := .pointer (some ⟨w.heap.size,1,none⟩)) rfl (by kernel_rfl) (fun _ _ _ h=>h) (.inl ⟨by rfl,fun W hW=>by have q0:=hW.cell p0; have q1:=hW.cell p1; go_simp⟩) dd inv ?_
 intro inv
 go_simp
 refine wpAnyLH_take (i:=6) (v := .int .u8 b) rfl (by kernel_rfl) (fun _ _ _ h=>h) (.inl ⟨by rfl,fun W hW=>by have q0:=hW.cell p0; have q1:=hW.cell p1; go_simp⟩) dd inv ?_
 intro inv
 go_simp
 refine wpAnyLH_take (i:=7) (v := .int .u8 0) rfl (by kernel_rfl) (fun _ _ _ h=>h) (.inl ⟨by rfl,fun W hW=>by have q0:=hW.cell p0; have q1:=hW.cell p1; go_simp⟩) dd inv ?_
 intro inv
 go_simp
 refine wpAnyLH_oneI (i:=4) rfl (by kernel_rfl) inv (fun inv K0 hK0 => ?_)
 go_simp
 have d1:Ext X ((X.alloc (.cells #[.int .i64 1,.int .i64 2,.int .i64 3,.int .i64 4,.int .i64 6,.int .i64 12] 3)).drew):=((Ext.refl X).alloc _).drew
 have s0:((X.alloc (.cells #[.int .i64 1,.int .i64 2,.int .i64 3,.int .i64 4,.int .i64 6,.int .i64 12] 3)).drew).cell? ⟨X.heap.size,0,none⟩=some (.int .i64 1):=by go_simp
 refine hK0 _ _ d1 ?_
 clear hK0
 generalize ((X.alloc (.cells #[.int .i64 1,.int .i64 2,.int .i64 3,.int .i64 4,.int .i64 6,.int .i64 12] 3)).drew)=Y at *
 refine wpAnyLH_oneI (i:=8) rfl (by kernel_rfl) inv (fun inv K1 hK1 => ?_)
 go_simp
 refine hK1 _ _ d1 ?_
 clear hK1
 refine wpAnyLH_oneI (i:=9) rfl (by kernel_rfl) inv (fun inv K2 hK2 => ?_)
 go_simp
 refine hK2 _ _ d1 ?_
 clear hK2
 refine wpAnyLH_oneI (i:=10) rfl (by kernel_rfl) inv (fun inv K3 hK3 => ?_)
 go_simp
 refine (Hp.out _ (eX.trans d1)).mono ?_
 rintro e W1 ⟨rfl,hG1⟩
 have d2:=d1.trans hG1
 refine hK3 _ _ d2 ?_
 clear hK3
 refine wpAnyLH_end (by kernel_rfl) ?_
 have hO2:=HO.out.ext d2
 obtain ⟨q0,q1,f0,f1,r0,r1,hF⟩:=two_end (eX.trans d2) (by omega) hO2 (I x) (I y)
 have Hres:=Lib.hid (show RetF w (.agg #[I x,I y]) (.returned (.agg #[I x,I y])) _ from ⟨rfl,hF.out⟩)
 clear inv p0 p1 dd d1 d2 hG1 s0 hO2
 go_wp2_with fail
 refine bodyPost_ret (v := .agg #[I x,I y]) (by simp [results,Tryz.results97,go_sem,r0,r1]) rfl Hres.out
set_option maxHeartbeats 2000000 in
theorem fr13_1 {a b k x y:Int} (hka:a.tmod 41=k) (hk : -40≤k∧k≤40) (hjb:b.tmod 6=1) {w:World}
  (hp : ∀ W,Ext w W→Calls Tryz.prog 158 #[.int .i64 k,.int .i64 2] W fun e w'=>e = .returned (.agg #[I x,I y])∧Ext W w') :
  Calls Tryz.prog 97 #[.agg #[.int .i8 a,.int .u8 b]] w fun e w'=>e = .returned (.agg #[I x,I y])∧Ext w w':=by
 have Hp:=Lib.hid hp
 have eX:=((Ext.refl w).alloc (.cells #[.int .i8 a,.int .u8 b] 53)).alloc (.cells #[.string ⟨#[]⟩,.string ⟨#[]⟩] 81)
 have p0:((w.alloc (.cells #[.int .i8 a,.int .u8 b] 53)).alloc (.cells #[.string ⟨#[]⟩,.string ⟨#[]⟩] 81)).cell? ⟨w.heap.size,0,none⟩=some (.int .i8 a):=by go_simp
 have p1:((w.alloc (.cells #[.int .i8 a,.int .u8 b] 53)).alloc (.cells #[.string ⟨#[]⟩,.string ⟨#[]⟩] 81)).cell? ⟨w.heap.size,1,none⟩=some (.int .u8 b):=by go_simp
 have hO0:=two_alloc (w.alloc (.cells #[.int .i8 a,.int .u8 b] 53)) 81 (.string ⟨#[]⟩) (.string ⟨#[]⟩)
 rw [show (w.alloc (.cells #[.int .i8 a,.int .u8 b] 53)).heap.size=w.heap.size+1 by simp] at hO0
 have HO:=Lib.hid (OwnV.mono hO0 (show w.heap.size≤w.heap.size+1 by omega))
 clear hO0
 clear hp
 go_enter Tryz.func97,Tryz.ntmps97
 go_wp2_with fail
 generalize hX0:(w.alloc (.cells #[.int .i8 a,.int .u8 b] 53)).alloc (.cells #[.string ⟨#[]⟩,.string ⟨#[]⟩] 81)=X at *
 clear hX0
 have dd:Ext X X.drew:=(Ext.refl X).drew
 refine wp_region_held_tail (S:=fun W=>Ext X W) 11 (by kernel_rfl) (by simp) ?_
 intro inv
 refine wpAnyLH_take (i:=0) (v := .pointer (some ⟨w.heap.size,0,none⟩)) rfl (by kernel_rfl) (fun _ _ _ h=>h) (.inl ⟨by rfl,fun W hW=>by have q0:=hW.cell p0; have q1:=hW.cell p1; go_simp⟩) dd inv ?_
 intro inv
 go_simp
 refine wpAnyLH_take (i:=1) (v := .int .i8 a) rfl (by kernel_rfl) (fun _ _ _ h=>h) (.inl ⟨by rfl,fun W hW=>by have q0:=hW.cell p0; have q1:=hW.cell p1; go_simp⟩) dd inv ?_
 intro inv
 go_simp
 refine wpAnyLH_take (i:=2) (v := .int .i8 k) rfl (by kernel_rfl) (fun _ _ _ h=>h) (.inl ⟨by rfl,fun W hW=>by have q0:=hW.cell p0; have q1:=hW.cell p1; go_simp⟩) dd inv ?_
 intro inv
 go_simp
 refine wpAnyLH_take (i:=3) (v := .int .i64 k) rfl (by kernel_rfl) (fun _ _ _ h=>h) (.inl ⟨by rfl,fun W hW=>by have q0:=hW.cell p0; have q1:=hW.cell p1; go_simp; rw [IntKind.wrap_i64]; omega⟩) dd inv ?_
 intro inv
 go_simp
 refine wpAnyLH_take (i:=5) (v := .pointer (some ⟨w.heap.size,1,none⟩)) rfl (by kernel_rfl) (fun _ _ _ h=>h) (.inl ⟨by rfl,fun W hW=>by have q0:=hW.cell p0; have q1:=hW.cell p1; go_simp⟩) dd inv ?_
 intro inv
 go_simp
 refine wpAnyLH_take (i:=6) (v := .int .u8 b) rfl (by kernel_rfl) (fun _ _ _ h=>h) (.inl ⟨by rfl,fun W hW=>by have q0:=hW.cell p0; have q1:=hW.cell p1; go_simp⟩) dd inv ?_
 intro inv
 go_simp
 refine wpAnyLH_take (i:=7) (v := .int .u8 1) rfl (by kernel_rfl) (fun _ _ _ h=>h) (.inl ⟨by rfl,fun W hW=>by have q0:=hW.cell p0; have q1:=hW.cell p1; go_simp⟩) dd inv ?_
 intro inv
 go_simp
 refine wpAnyLH_oneI (i:=4) rfl (by kernel_rfl) inv (fun inv K0 hK0 => ?_)
 go_simp
 have d1:Ext X ((X.alloc (.cells #[.int .i64 1,.int .i64 2,.int .i64 3,.int .i64 4,.int .i64 6,.int .i64 12] 3)).drew):=((Ext.refl X).alloc _).drew
 have s0:((X.alloc (.cells #[.int .i64 1,.int .i64 2,.int .i64 3,.int .i64 4,.int .i64 6,.int .i64 12] 3)).drew).cell? ⟨X.heap.size,1,none⟩=some (.int .i64 2):=by go_simp
 refine hK0 _ _ d1 ?_
 clear hK0
 generalize ((X.alloc (.cells #[.int .i64 1,.int .i64 2,.int .i64 3,.int .i64 4,.int .i64 6,.int .i64 12] 3)).drew)=Y at *
 refine wpAnyLH_oneI (i:=8) rfl (by kernel_rfl) inv (fun inv K1 hK1 => ?_)
 go_simp
 refine hK1 _ _ d1 ?_
 clear hK1
 refine wpAnyLH_oneI (i:=9) rfl (by kernel_rfl) inv (fun inv K2 hK2 => ?_)
 go_simp
 refine hK2 _ _ d1 ?_
 clear hK2
 refine wpAnyLH_oneI (i:=10) rfl (by kernel_rfl) inv (fun inv K3 hK3 => ?_)
 go_simp
 refine (Hp.out _ (eX.trans d1)).mono ?_
 rintro e W1 ⟨rfl,hG1⟩
 have d2:=d1.trans hG1
 refine hK3 _ _ d2 ?_
 clear hK3
 refine wpAnyLH_end (by kernel_rfl) ?_
 have hO2:=HO.out.ext d2
 obtain ⟨q0,q1,f0,f1,r0,r1,hF⟩:=two_end (eX.trans d2) (by omega) hO2 (I x) (I y)
 have Hres:=Lib.hid (show RetF w (.agg #[I x,I y]) (.returned (.agg #[I x,I y])) _ from ⟨rfl,hF.out⟩)
 clear inv p0 p1 dd d1 d2 hG1 s0 hO2
 go_wp2_with fail
 refine bodyPost_ret (v := .agg #[I x,I y]) (by simp [results,Tryz.results97,go_sem,r0,r1]) rfl Hres.out
set_option maxHeartbeats 2000000 in
theorem fr13_2 {a b k x y:Int} (hka:a.tmod 41=k) (hk : -40≤k∧k≤40) (hjb:b.tmod 6=2) {w:World}
  (hp : ∀ W,Ext w W→Calls Tryz.prog 158 #[.int .i64 k,.int .i64 3] W fun e w'=>e = .returned (.agg #[I x,I y])∧Ext W w') :
  Calls Tryz.prog 97 #[.agg #[.int .i8 a,.int .u8 b]] w fun e w'=>e = .returned (.agg #[I x,I y])∧Ext w w':=by
 have Hp:=Lib.hid hp
 have eX:=((Ext.refl w).alloc (.cells #[.int .i8 a,.int .u8 b] 53)).alloc (.cells #[.string ⟨#[]⟩,.string ⟨#[]⟩] 81)
 have p0:((w.alloc (.cells #[.int .i8 a,.int .u8 b] 53)).alloc (.cells #[.string ⟨#[]⟩,.string ⟨#[]⟩] 81)).cell? ⟨w.heap.size,0,none⟩=some (.int .i8 a):=by go_simp
 have p1:((w.alloc (.cells #[.int .i8 a,.int .u8 b] 53)).alloc (.cells #[.string ⟨#[]⟩,.string ⟨#[]⟩] 81)).cell? ⟨w.heap.size,1,none⟩=some (.int .u8 b):=by go_simp
 have hO0:=two_alloc (w.alloc (.cells #[.int .i8 a,.int .u8 b] 53)) 81 (.string ⟨#[]⟩) (.string ⟨#[]⟩)
 rw [show (w.alloc (.cells #[.int .i8 a,.int .u8 b] 53)).heap.size=w.heap.size+1 by simp] at hO0
 have HO:=Lib.hid (OwnV.mono hO0 (show w.heap.size≤w.heap.size+1 by omega))
 clear hO0
 clear hp
 go_enter Tryz.func97,Tryz.ntmps97
 go_wp2_with fail
 generalize hX0:(w.alloc (.cells #[.int .i8 a,.int .u8 b] 53)).alloc (.cells #[.string ⟨#[]⟩,.string ⟨#[]⟩] 81)=X at *
 clear hX0
 have dd:Ext X X.drew:=(Ext.refl X).drew
 refine wp_region_held_tail (S:=fun W=>Ext X W) 11 (by kernel_rfl) (by simp) ?_
 intro inv
 refine wpAnyLH_take (i:=0) (v := .pointer (some ⟨w.heap.size,0,none⟩)) rfl (by kernel_rfl) (fun _ _ _ h=>h) (.inl ⟨by rfl,fun W hW=>by have q0:=hW.cell p0; have q1:=hW.cell p1; go_simp⟩) dd inv ?_
 intro inv
 go_simp
 refine wpAnyLH_take (i:=1) (v := .int .i8 a) rfl (by kernel_rfl) (fun _ _ _ h=>h) (.inl ⟨by rfl,fun W hW=>by have q0:=hW.cell p0; have q1:=hW.cell p1; go_simp⟩) dd inv ?_
 intro inv
 go_simp
 refine wpAnyLH_take (i:=2) (v := .int .i8 k) rfl (by kernel_rfl) (fun _ _ _ h=>h) (.inl ⟨by rfl,fun W hW=>by have q0:=hW.cell p0; have q1:=hW.cell p1; go_simp⟩) dd inv ?_
 intro inv
 go_simp
 refine wpAnyLH_take (i:=3) (v := .int .i64 k) rfl (by kernel_rfl) (fun _ _ _ h=>h) (.inl ⟨by rfl,fun W hW=>by have q0:=hW.cell p0; have q1:=hW.cell p1; go_simp; rw [IntKind.wrap_i64]; omega⟩) dd inv ?_
 intro inv
 go_simp
 refine wpAnyLH_take (i:=5) (v := .pointer (some ⟨w.heap.size,1,none⟩)) rfl (by kernel_rfl) (fun _ _ _ h=>h) (.inl ⟨by rfl,fun W hW=>by have q0:=hW.cell p0; have q1:=hW.cell p1; go_simp⟩) dd inv ?_
 intro inv
 go_simp
 refine wpAnyLH_take (i:=6) (v := .int .u8 b) rfl (by kernel_rfl) (fun _ _ _ h=>h) (.inl ⟨by rfl,fun W hW=>by have q0:=hW.cell p0; have q1:=hW.cell p1; go_simp⟩) dd inv ?_
 intro inv
 go_simp
 refine wpAnyLH_take (i:=7) (v := .int .u8 2) rfl (by kernel_rfl) (fun _ _ _ h=>h) (.inl ⟨by rfl,fun W hW=>by have q0:=hW.cell p0; have q1:=hW.cell p1; go_simp⟩) dd inv ?_
 intro inv
 go_simp
 refine wpAnyLH_oneI (i:=4) rfl (by kernel_rfl) inv (fun inv K0 hK0 => ?_)
 go_simp
 have d1:Ext X ((X.alloc (.cells #[.int .i64 1,.int .i64 2,.int .i64 3,.int .i64 4,.int .i64 6,.int .i64 12] 3)).drew):=((Ext.refl X).alloc _).drew
 have s0:((X.alloc (.cells #[.int .i64 1,.int .i64 2,.int .i64 3,.int .i64 4,.int .i64 6,.int .i64 12] 3)).drew).cell? ⟨X.heap.size,2,none⟩=some (.int .i64 3):=by go_simp
 refine hK0 _ _ d1 ?_
 clear hK0
 generalize ((X.alloc (.cells #[.int .i64 1,.int .i64 2,.int .i64 3,.int .i64 4,.int .i64 6,.int .i64 12] 3)).drew)=Y at *
 refine wpAnyLH_oneI (i:=8) rfl (by kernel_rfl) inv (fun inv K1 hK1 => ?_)
 go_simp
 refine hK1 _ _ d1 ?_
 clear hK1
 refine wpAnyLH_oneI (i:=9) rfl (by kernel_rfl) inv (fun inv K2 hK2 => ?_)
 go_simp
 refine hK2 _ _ d1 ?_
 clear hK2
 refine wpAnyLH_oneI (i:=10) rfl (by kernel_rfl) inv (fun inv K3 hK3 => ?_)
 go_simp
 refine (Hp.out _ (eX.trans d1)).mono ?_
 rintro e W1 ⟨rfl,hG1⟩
 have d2:=d1.trans hG1
 refine hK3 _ _ d2 ?_
 clear hK3
 refine wpAnyLH_end (by kernel_rfl) ?_
 have hO2:=HO.out.ext d2
 obtain ⟨q0,q1,f0,f1,r0,r1,hF⟩:=two_end (eX.trans d2) (by omega) hO2 (I x) (I y)
 have Hres:=Lib.hid (show RetF w (.agg #[I x,I y]) (.returned (.agg #[I x,I y])) _ from ⟨rfl,hF.out⟩)
 clear inv p0 p1 dd d1 d2 hG1 s0 hO2
 go_wp2_with fail
 refine bodyPost_ret (v := .agg #[I x,I y]) (by simp [results,Tryz.results97,go_sem,r0,r1]) rfl Hres.out
set_option maxHeartbeats 2000000 in
theorem fr13_3 {a b k x y:Int} (hka:a.tmod 41=k) (hk : -40≤k∧k≤40) (hjb:b.tmod 6=3) {w:World}
  (hp : ∀ W,Ext w W→Calls Tryz.prog 158 #[.int .i64 k,.int .i64 4] W fun e w'=>e = .returned (.agg #[I x,I y])∧Ext W w') :
  Calls Tryz.prog 97 #[.agg #[.int .i8 a,.int .u8 b]] w fun e w'=>e = .returned (.agg #[I x,I y])∧Ext w w':=by
 have Hp:=Lib.hid hp
 have eX:=((Ext.refl w).alloc (.cells #[.int .i8 a,.int .u8 b] 53)).alloc (.cells #[.string ⟨#[]⟩,.string ⟨#[]⟩] 81)
 have p0:((w.alloc (.cells #[.int .i8 a,.int .u8 b] 53)).alloc (.cells #[.string ⟨#[]⟩,.string ⟨#[]⟩] 81)).cell? ⟨w.heap.size,0,none⟩=some (.int .i8 a):=by go_simp
 have p1:((w.alloc (.cells #[.int .i8 a,.int .u8 b] 53)).alloc (.cells #[.string ⟨#[]⟩,.string ⟨#[]⟩] 81)).cell? ⟨w.heap.size,1,none⟩=some (.int .u8 b):=by go_simp
 have hO0:=two_alloc (w.alloc (.cells #[.int .i8 a,.int .u8 b] 53)) 81 (.string ⟨#[]⟩) (.string ⟨#[]⟩)
 rw [show (w.alloc (.cells #[.int .i8 a,.int .u8 b] 53)).heap.size=w.heap.size+1 by simp] at hO0
 have HO:=Lib.hid (OwnV.mono hO0 (show w.heap.size≤w.heap.size+1 by omega))
 clear hO0
 clear hp
 go_enter Tryz.func97,Tryz.ntmps97
 go_wp2_with fail
 generalize hX0:(w.alloc (.cells #[.int .i8 a,.int .u8 b] 53)).alloc (.cells #[.string ⟨#[]⟩,.string ⟨#[]⟩] 81)=X at *
 clear hX0
 have dd:Ext X X.drew:=(Ext.refl X).drew
 refine wp_region_held_tail (S:=fun W=>Ext X W) 11 (by kernel_rfl) (by simp) ?_
 intro inv
 refine wpAnyLH_take (i:=0) (v := .pointer (some ⟨w.heap.size,0,none⟩)) rfl (by kernel_rfl) (fun _ _ _ h=>h) (.inl ⟨by rfl,fun W hW=>by have q0:=hW.cell p0; have q1:=hW.cell p1; go_simp⟩) dd inv ?_
 intro inv
 go_simp
 refine wpAnyLH_take (i:=1) (v := .int .i8 a) rfl (by kernel_rfl) (fun _ _ _ h=>h) (.inl ⟨by rfl,fun W hW=>by have q0:=hW.cell p0; have q1:=hW.cell p1; go_simp⟩) dd inv ?_
 intro inv
 go_simp
 refine wpAnyLH_take (i:=2) (v := .int .i8 k) rfl (by kernel_rfl) (fun _ _ _ h=>h) (.inl ⟨by rfl,fun W hW=>by have q0:=hW.cell p0; have q1:=hW.cell p1; go_simp⟩) dd inv ?_
 intro inv
 go_simp
 refine wpAnyLH_take (i:=3) (v := .int .i64 k) rfl (by kernel_rfl) (fun _ _ _ h=>h) (.inl ⟨by rfl,fun W hW=>by have q0:=hW.cell p0; have q1:=hW.cell p1; go_simp; rw [IntKind.wrap_i64]; omega⟩) dd inv ?_
 intro inv
 go_simp
 refine wpAnyLH_take (i:=5) (v := .pointer (some ⟨w.heap.size,1,none⟩)) rfl (by kernel_rfl) (fun _ _ _ h=>h) (.inl ⟨by rfl,fun W hW=>by have q0:=hW.cell p0; have q1:=hW.cell p1; go_simp⟩) dd inv ?_
 intro inv
 go_simp
 refine wpAnyLH_take (i:=6) (v := .int .u8 b) rfl (by kernel_rfl) (fun _ _ _ h=>h) (.inl ⟨by rfl,fun W hW=>by have q0:=hW.cell p0; have q1:=hW.cell p1; go_simp⟩) dd inv ?_
 intro inv
 go_simp
 refine wpAnyLH_take (i:=7) (v := .int .u8 3) rfl (by kernel_rfl) (fun _ _ _ h=>h) (.inl ⟨by rfl,fun W hW=>by have q0:=hW.cell p0; have q1:=hW.cell p1; go_simp⟩) dd inv ?_
 intro inv
 go_simp
 refine wpAnyLH_oneI (i:=4) rfl (by kernel_rfl) inv (fun inv K0 hK0 => ?_)
 go_simp
 have d1:Ext X ((X.alloc (.cells #[.int .i64 1,.int .i64 2,.int .i64 3,.int .i64 4,.int .i64 6,.int .i64 12] 3)).drew):=((Ext.refl X).alloc _).drew
 have s0:((X.alloc (.cells #[.int .i64 1,.int .i64 2,.int .i64 3,.int .i64 4,.int .i64 6,.int .i64 12] 3)).drew).cell? ⟨X.heap.size,3,none⟩=some (.int .i64 4):=by go_simp
 refine hK0 _ _ d1 ?_
 clear hK0
 generalize ((X.alloc (.cells #[.int .i64 1,.int .i64 2,.int .i64 3,.int .i64 4,.int .i64 6,.int .i64 12] 3)).drew)=Y at *
 refine wpAnyLH_oneI (i:=8) rfl (by kernel_rfl) inv (fun inv K1 hK1 => ?_)
 go_simp
 refine hK1 _ _ d1 ?_
 clear hK1
 refine wpAnyLH_oneI (i:=9) rfl (by kernel_rfl) inv (fun inv K2 hK2 => ?_)
 go_simp
 refine hK2 _ _ d1 ?_
 clear hK2
 refine wpAnyLH_oneI (i:=10) rfl (by kernel_rfl) inv (fun inv K3 hK3 => ?_)
 go_simp
 refine (Hp.out _ (eX.trans d1)).mono ?_
 rintro e W1 ⟨rfl,hG1⟩
 have d2:=d1.trans hG1
 refine hK3 _ _ d2 ?_
 clear hK3
 refine wpAnyLH_end (by kernel_rfl) ?_
 have hO2:=HO.out.ext d2
 obtain ⟨q0,q1,f0,f1,r0,r1,hF⟩:=two_end (eX.trans d2) (by omega) hO2 (I x) (I y)
 have Hres:=Lib.hid (show RetF w (.agg #[I x,I y]) (.returned (.agg #[I x,I y])) _ from ⟨rfl,hF.out⟩)
 clear inv p0 p1 dd d1 d2 hG1 s0 hO2
 go_wp2_with fail
 refine bodyPost_ret (v := .agg #[I x,I y]) (by simp [results,Tryz.results97,go_sem,r0,r1]) rfl Hres.out
set_option maxHeartbeats 2000000 in
theorem fr13_4 {a b k x y:Int} (hka:a.tmod 41=k) (hk : -40≤k∧k≤40) (hjb:b.tmod 6=4) {w:World}
  (hp : ∀ W,Ext w W→Calls Tryz.prog 158 #[.int .i64 k,.int .i64 6] W fun e w'=>e = .returned (.agg #[I x,I y])∧Ext W w') :
  Calls Tryz.prog 97 #[.agg #[.int .i8 a,.int .u8 b]] w fun e w'=>e = .returned (.agg #[I x,I y])∧Ext w w':=by
 have Hp:=Lib.hid hp
 have eX:=((Ext.refl w).alloc (.cells #[.int .i8 a,.int .u8 b] 53)).alloc (.cells #[.string ⟨#[]⟩,.string ⟨#[]⟩] 81)
 have p0:((w.alloc (.cells #[.int .i8 a,.int .u8 b] 53)).alloc (.cells #[.string ⟨#[]⟩,.string ⟨#[]⟩] 81)).cell? ⟨w.heap.size,0,none⟩=some (.int .i8 a):=by go_simp
 have p1:((w.alloc (.cells #[.int .i8 a,.int .u8 b] 53)).alloc (.cells #[.string ⟨#[]⟩,.string ⟨#[]⟩] 81)).cell? ⟨w.heap.size,1,none⟩=some (.int .u8 b):=by go_simp
 have hO0:=two_alloc (w.alloc (.cells #[.int .i8 a,.int .u8 b] 53)) 81 (.string ⟨#[]⟩) (.string ⟨#[]⟩)
 rw [show (w.alloc (.cells #[.int .i8 a,.int .u8 b] 53)).heap.size=w.heap.size+1 by simp] at hO0
 have HO:=Lib.hid (OwnV.mono hO0 (show w.heap.size≤w.heap.size+1 by omega))
 clear hO0
 clear hp
 go_enter Tryz.func97,Tryz.ntmps97
 go_wp2_with fail
 generalize hX0:(w.alloc (.cells #[.int .i8 a,.int .u8 b] 53)).alloc (.cells #[.string ⟨#[]⟩,.string ⟨#[]⟩] 81)=X at *
 clear hX0
 have dd:Ext X X.drew:=(Ext.refl X).drew
 refine wp_region_held_tail (S:=fun W=>Ext X W) 11 (by kernel_rfl) (by simp) ?_
 intro inv
 refine wpAnyLH_take (i:=0) (v := .pointer (some ⟨w.heap.size,0,none⟩)) rfl (by kernel_rfl) (fun _ _ _ h=>h) (.inl ⟨by rfl,fun W hW=>by have q0:=hW.cell p0; have q1:=hW.cell p1; go_simp⟩) dd inv ?_
 intro inv
 go_simp
 refine wpAnyLH_take (i:=1) (v := .int .i8 a) rfl (by kernel_rfl) (fun _ _ _ h=>h) (.inl ⟨by rfl,fun W hW=>by have q0:=hW.cell p0; have q1:=hW.cell p1; go_simp⟩) dd inv ?_
 intro inv
 go_simp
 refine wpAnyLH_take (i:=2) (v := .int .i8 k) rfl (by kernel_rfl) (fun _ _ _ h=>h) (.inl ⟨by rfl,fun W hW=>by have q0:=hW.cell p0; have q1:=hW.cell p1; go_simp⟩) dd inv ?_
 intro inv
 go_simp
 refine wpAnyLH_take (i:=3) (v := .int .i64 k) rfl (by kernel_rfl) (fun _ _ _ h=>h) (.inl ⟨by rfl,fun W hW=>by have q0:=hW.cell p0; have q1:=hW.cell p1; go_simp; rw [IntKind.wrap_i64]; omega⟩) dd inv ?_
 intro inv
 go_simp
 refine wpAnyLH_take (i:=5) (v := .pointer (some ⟨w.heap.size,1,none⟩)) rfl (by kernel_rfl) (fun _ _ _ h=>h) (.inl ⟨by rfl,fun W hW=>by have q0:=hW.cell p0; have q1:=hW.cell p1; go_simp⟩) dd inv ?_
 intro inv
 go_simp
 refine wpAnyLH_take (i:=6) (v := .int .u8 b) rfl (by kernel_rfl) (fun _ _ _ h=>h) (.inl ⟨by rfl,fun W hW=>by have q0:=hW.cell p0; have q1:=hW.cell p1; go_simp⟩) dd inv ?_
 intro inv
 go_simp
 refine wpAnyLH_take (i:=7) (v := .int .u8 4) rfl (by kernel_rfl) (fun _ _ _ h=>h) (.inl ⟨by rfl,fun W hW=>by have q0:=hW.cell p0; have q1:=hW.cell p1; go_simp⟩) dd inv ?_
 intro inv
 go_simp
 refine wpAnyLH_oneI (i:=4) rfl (by kernel_rfl) inv (fun inv K0 hK0 => ?_)
 go_simp
 have d1:Ext X ((X.alloc (.cells #[.int .i64 1,.int .i64 2,.int .i64 3,.int .i64 4,.int .i64 6,.int .i64 12] 3)).drew):=((Ext.refl X).alloc _).drew
 have s0:((X.alloc (.cells #[.int .i64 1,.int .i64 2,.int .i64 3,.int .i64 4,.int .i64 6,.int .i64 12] 3)).drew).cell? ⟨X.heap.size,4,none⟩=some (.int .i64 6):=by go_simp
 refine hK0 _ _ d1 ?_
 clear hK0
 generalize ((X.alloc (.cells #[.int .i64 1,.int .i64 2,.int .i64 3,.int .i64 4,.int .i64 6,.int .i64 12] 3)).drew)=Y at *
 refine wpAnyLH_oneI (i:=8) rfl (by kernel_rfl) inv (fun inv K1 hK1 => ?_)
 go_simp
 refine hK1 _ _ d1 ?_
 clear hK1
 refine wpAnyLH_oneI (i:=9) rfl (by kernel_rfl) inv (fun inv K2 hK2 => ?_)
 go_simp
 refine hK2 _ _ d1 ?_
 clear hK2
 refine wpAnyLH_oneI (i:=10) rfl (by kernel_rfl) inv (fun inv K3 hK3 => ?_)
 go_simp
 refine (Hp.out _ (eX.trans d1)).mono ?_
 rintro e W1 ⟨rfl,hG1⟩
 have d2:=d1.trans hG1
 refine hK3 _ _ d2 ?_
 clear hK3
 refine wpAnyLH_end (by kernel_rfl) ?_
 have hO2:=HO.out.ext d2
 obtain ⟨q0,q1,f0,f1,r0,r1,hF⟩:=two_end (eX.trans d2) (by omega) hO2 (I x) (I y)
 have Hres:=Lib.hid (show RetF w (.agg #[I x,I y]) (.returned (.agg #[I x,I y])) _ from ⟨rfl,hF.out⟩)
 clear inv p0 p1 dd d1 d2 hG1 s0 hO2
 go_wp2_with fail
 refine bodyPost_ret (v := .agg #[I x,I y]) (by simp [results,Tryz.results97,go_sem,r0,r1]) rfl Hres.out
set_option maxHeartbeats 2000000 in
theorem fr13_5 {a b k x y:Int} (hka:a.tmod 41=k) (hk : -40≤k∧k≤40) (hjb:b.tmod 6=5) {w:World}
  (hp : ∀ W,Ext w W→Calls Tryz.prog 158 #[.int .i64 k,.int .i64 12] W fun e w'=>e = .returned (.agg #[I x,I y])∧Ext W w') :
  Calls Tryz.prog 97 #[.agg #[.int .i8 a,.int .u8 b]] w fun e w'=>e = .returned (.agg #[I x,I y])∧Ext w w':=by
 have Hp:=Lib.hid hp
 have eX:=((Ext.refl w).alloc (.cells #[.int .i8 a,.int .u8 b] 53)).alloc (.cells #[.string ⟨#[]⟩,.string ⟨#[]⟩] 81)
 have p0:((w.alloc (.cells #[.int .i8 a,.int .u8 b] 53)).alloc (.cells #[.string ⟨#[]⟩,.string ⟨#[]⟩] 81)).cell? ⟨w.heap.size,0,none⟩=some (.int .i8 a):=by go_simp
 have p1:((w.alloc (.cells #[.int .i8 a,.int .u8 b] 53)).alloc (.cells #[.string ⟨#[]⟩,.string ⟨#[]⟩] 81)).cell? ⟨w.heap.size,1,none⟩=some (.int .u8 b):=by go_simp
 have hO0:=two_alloc (w.alloc (.cells #[.int .i8 a,.int .u8 b] 53)) 81 (.string ⟨#[]⟩) (.string ⟨#[]⟩)
 rw [show (w.alloc (.cells #[.int .i8 a,.int .u8 b] 53)).heap.size=w.heap.size+1 by simp] at hO0
 have HO:=Lib.hid (OwnV.mono hO0 (show w.heap.size≤w.heap.size+1 by omega))
 clear hO0
 clear hp
 go_enter Tryz.func97,Tryz.ntmps97
 go_wp2_with fail
 generalize hX0:(w.alloc (.cells #[.int .i8 a,.int .u8 b] 53)).alloc (.cells #[.string ⟨#[]⟩,.string ⟨#[]⟩] 81)=X at *
 clear hX0
 have dd:Ext X X.drew:=(Ext.refl X).drew
 refine wp_region_held_tail (S:=fun W=>Ext X W) 11 (by kernel_rfl) (by simp) ?_
 intro inv
 refine wpAnyLH_take (i:=0) (v := .pointer (some ⟨w.heap.size,0,none⟩)) rfl (by kernel_rfl) (fun _ _ _ h=>h) (.inl ⟨by rfl,fun W hW=>by have q0:=hW.cell p0; have q1:=hW.cell p1; go_simp⟩) dd inv ?_
 intro inv
 go_simp
 refine wpAnyLH_take (i:=1) (v := .int .i8 a) rfl (by kernel_rfl) (fun _ _ _ h=>h) (.inl ⟨by rfl,fun W hW=>by have q0:=hW.cell p0; have q1:=hW.cell p1; go_simp⟩) dd inv ?_
 intro inv
 go_simp
 refine wpAnyLH_take (i:=2) (v := .int .i8 k) rfl (by kernel_rfl) (fun _ _ _ h=>h) (.inl ⟨by rfl,fun W hW=>by have q0:=hW.cell p0; have q1:=hW.cell p1; go_simp⟩) dd inv ?_
 intro inv
 go_simp
 refine wpAnyLH_take (i:=3) (v := .int .i64 k) rfl (by kernel_rfl) (fun _ _ _ h=>h) (.inl ⟨by rfl,fun W hW=>by have q0:=hW.cell p0; have q1:=hW.cell p1; go_simp; rw [IntKind.wrap_i64]; omega⟩) dd inv ?_
 intro inv
 go_simp
 refine wpAnyLH_take (i:=5) (v := .pointer (some ⟨w.heap.size,1,none⟩)) rfl (by kernel_rfl) (fun _ _ _ h=>h) (.inl ⟨by rfl,fun W hW=>by have q0:=hW.cell p0; have q1:=hW.cell p1; go_simp⟩) dd inv ?_
 intro inv
 go_simp
 refine wpAnyLH_take (i:=6) (v := .int .u8 b) rfl (by kernel_rfl) (fun _ _ _ h=>h) (.inl ⟨by rfl,fun W hW=>by have q0:=hW.cell p0; have q1:=hW.cell p1; go_simp⟩) dd inv ?_
 intro inv
 go_simp
 refine wpAnyLH_take (i:=7) (v := .int .u8 5) rfl (by kernel_rfl) (fun _ _ _ h=>h) (.inl ⟨by rfl,fun W hW=>by have q0:=hW.cell p0; have q1:=hW.cell p1; go_simp⟩) dd inv ?_
 intro inv
 go_simp
 refine wpAnyLH_oneI (i:=4) rfl (by kernel_rfl) inv (fun inv K0 hK0 => ?_)
 go_simp
 have d1:Ext X ((X.alloc (.cells #[.int .i64 1,.int .i64 2,.int .i64 3,.int .i64 4,.int .i64 6,.int .i64 12] 3)).drew):=((Ext.refl X).alloc _).drew
 have s0:((X.alloc (.cells #[.int .i64 1,.int .i64 2,.int .i64 3,.int .i64 4,.int .i64 6,.int .i64 12] 3)).drew).cell? ⟨X.heap.size,5,none⟩=some (.int .i64 12):=by go_simp
 refine hK0 _ _ d1 ?_
 clear hK0
 generalize ((X.alloc (.cells #[.int .i64 1,.int .i64 2,.int .i64 3,.int .i64 4,.int .i64 6,.int .i64 12] 3)).drew)=Y at *
 refine wpAnyLH_oneI (i:=8) rfl (by kernel_rfl) inv (fun inv K1 hK1 => ?_)
 go_simp
 refine hK1 _ _ d1 ?_
 clear hK1
 refine wpAnyLH_oneI (i:=9) rfl (by kernel_rfl) inv (fun inv K2 hK2 => ?_)
 go_simp
 refine hK2 _ _ d1 ?_
 clear hK2
 refine wpAnyLH_oneI (i:=10) rfl (by kernel_rfl) inv (fun inv K3 hK3 => ?_)
 go_simp
 refine (Hp.out _ (eX.trans d1)).mono ?_
 rintro e W1 ⟨rfl,hG1⟩
 have d2:=d1.trans hG1
 refine hK3 _ _ d2 ?_
 clear hK3
 refine wpAnyLH_end (by kernel_rfl) ?_
 have hO2:=HO.out.ext d2
 obtain ⟨q0,q1,f0,f1,r0,r1,hF⟩:=two_end (eX.trans d2) (by omega) hO2 (I x) (I y)
 have Hres:=Lib.hid (show RetF w (.agg #[I x,I y]) (.returned (.agg #[I x,I y])) _ from ⟨rfl,hF.out⟩)
 clear inv p0 p1 dd d1 d2 hG1 s0 hO2
 go_wp2_with fail
 refine bodyPost_ret (v := .agg #[I x,I y]) (by simp [results,Tryz.results97,go_sem,r0,r1]) rfl Hres.out
theorem Fraction13_any {a b:Int} (hb:0≤b∧b≤255) {w:World} (hL:Laid w) :
  Calls Tryz.prog 97 #[.agg #[.int .i8 a,.int .u8 b]] w fun e w'=>e = .returned (RV (frQ a b))∧Ext w w':=by
 obtain ⟨k,hka,hk⟩ : ∃ k:Int,a.tmod 41=k ∧ -40≤k∧k≤40:=⟨_,rfl,by
  have h1:=Int.tmod_lt_of_pos a (show (0:Int)<41 by decide)
  have h2:=Int.lt_tmod_of_pos a (show (0:Int)<41 by decide)
  omega⟩
 obtain ⟨j,hj6,hjb⟩ : ∃ j:Nat,j<6∧b.tmod 6=(j:Int):=⟨(b.tmod 6).toNat,by rw [Int.tmod_eq_emod_of_nonneg hb.1]; omega,by rw [Int.tmod_eq_emod_of_nonneg hb.1]; omega⟩
 have hq:frQ a b=((k:Int):Rat)/((denN j:Int):Rat):=by unfold frQ; rw [hka,hjb]; simp
 rw [hq]
 have hjs:j=0∨j=1∨j=2∨j=3∨j=4∨j=5:=by omega
 rcases hjs with rfl | rfl | rfl | rfl | rfl | rfl
 ·exact fr13_0 hka hk hjb (fun W hW=>part13_any (n:=k) (d:=1) (by omega) (by omega) (by decide) (hL.ext hW))
 ·exact fr13_1 hka hk hjb (fun W hW=>part13_any (n:=k) (d:=2) (by omega) (by omega) (by decide) (hL.ext hW))
 ·exact fr13_2 hka hk hjb (fun W hW=>part13_any (n:=k) (d:=3) (by omega) (by omega) (by decide) (hL.ext hW))
 ·exact fr13_3 hka hk hjb (fun W hW=>part13_any (n:=k) (d:=4) (by omega) (by omega) (by decide) (hL.ext hW))
 ·exact fr13_4 hka hk hjb (fun W hW=>part13_any (n:=k) (d:=6) (by omega) (by omega) (by decide) (hL.ext hW))
 ·exact fr13_5 hka hk hjb (fun W hW=>part13_any (n:=k) (d:=12) (by omega) (by omega) (by decide) (hL.ext hW))
theorem SzV.made0 {B:Nat} {w:World} (hB:B≤w.heap.size):SzV B (w.alloc (.cells #[] 81)) (slv w.heap.size 0 0) [] :=
 ⟨rfl,.inr ⟨w.heap.size,0,#[],rfl,hB,Array.getElem?_push_size,Nat.le_refl _,by unfold maxLen; omega,rfl,rfl⟩⟩
theorem frQ_tw {a b:Int}:Tw 480 (frQ a b):=by
  unfold frQ
  have h1:=Int.tmod_lt_of_pos a (show (0:Int)<41 by decide)
  have h2:=Int.lt_tmod_of_pos a (show (0:Int)<41 by decide)
  generalize a.tmod 41=k at *
  generalize (b.tmod 6).toNat=j
  have key : ∀ (d m:Int),d*m=12→1≤d→1≤m→m≤12→Tw 480 ((k:Rat)/(d:Rat)):=fun d m h hd hm hm2=>by
    refine ⟨k*m,?_,?_⟩
    · have e:((d:Int):Rat)*((m:Int):Rat)=12:=by exact_mod_cast h
      have n0:((d:Int):Rat)≠0:=by exact_mod_cast (show d≠0 by omega)
      rw [Rat.intCast_mul]
      grind
    · rw [Int.natAbs_mul]
      have:m.natAbs≤12:=by omega
      have:k.natAbs≤40:=by omega
      exact Nat.le_trans (Nat.mul_le_mul ‹k.natAbs≤40› ‹m.natAbs≤12›) (by decide)
  match j with
  | 0=>exact key 1 12 (by decide) (by decide) (by decide) (by decide)
  | 1=>exact key 2 6 (by decide) (by decide) (by decide) (by decide)
  | 2=>exact key 3 4 (by decide) (by decide) (by decide) (by decide)
  | 3=>exact key 4 3 (by decide) (by decide) (by decide) (by decide)
  | 4=>exact key 6 2 (by decide) (by decide) (by decide) (by decide)
  | (j+5)=>exact key 12 1 (by decide) (by decide) (by decide) (by decide)
def mk13L (A B:Nat→Int) (i:Nat):List Rat:=(List.range i).map fun t=>frQ (A (t%4)) (B (t%4))
@[simp] theorem mk13L_length (A B:Nat→Int) (i:Nat):(mk13L A B i).length=i:=by simp [mk13L]
theorem mk13L_snoc (A B:Nat→Int) (i:Nat):mk13L A B i++[frQ (A (i%4)) (B (i%4))]=mk13L A B (i+1):=by
 unfold mk13L
 rw [List.range_succ,List.map_append]; rfl
abbrev ptsV (A B:Nat→Int):Value := .agg #[.int .i8 (A 0),.int .u8 (B 0),.int .i8 (A 1),.int .u8 (B 1),.int .i8 (A 2),.int .u8 (B 2),.int .i8 (A 3),.int .u8 (B 3)]
set_option maxHeartbeats 2000000 in
theorem Make13_any {w:World} {pa:Option Addr} {np cp:Nat} {A B:Nat→Int} (hB : ∀ t,0≤B t∧B t≤255) (hn:np≤1000) (hL:Laid w) :
  Calls Tryz.prog 39 #[.slice pa np cp,ptsV A B] w fun e w'=>(∃ v,e = .returned v∧SzV w.heap.size w' v (mk13L A B np))∧Ext w w':=by
 have HB:=Lib.hid hB
 have HL:=Lib.hid hL
 clear hB hL
 go_enter Tryz.func39,Tryz.ntmps39
 go_wp2_with fail
 have ex:=((Ext.refl w).alloc (.cells #[.int .i8 (A 0),.int .u8 (B 0),.int .i8 (A 1),.int .u8 (B 1),.int .i8 (A 2),.int .u8 (B 2),.int .i8 (A 3),.int .u8 (B 3)] 55)).alloc (.cells #[] 81)
 have hc : ∀ t,t<4→((w.alloc (.cells #[.int .i8 (A 0),.int .u8 (B 0),.int .i8 (A 1),.int .u8 (B 1),.int .i8 (A 2),.int .u8 (B 2),.int .i8 (A 3),.int .u8 (B 3)] 55)).alloc (.cells #[] 81)).cell? ⟨w.heap.size,t*2,none⟩=some (.int .i8 (A t))∧((w.alloc (.cells #[.int .i8 (A 0),.int .u8 (B 0),.int .i8 (A 1),.int .u8 (B 1),.int .i8 (A 2),.int .u8 (B 2),.int .i8 (A 3),.int .u8 (B 3)] 55)).alloc (.cells #[] 81)).cell? ⟨w.heap.size,t*2+1,none⟩=some (.int .u8 (B t)):=fun t ht=>by
  rcases (show t=0∨t=1∨t=2∨t=3 by omega) with rfl | rfl | rfl | rfl <;> constructor <;> go_simp
 have hXs:w.heap.size+1≤((w.alloc (.cells #[.int .i8 (A 0),.int .u8 (B 0),.int .i8 (A 1),.int .u8 (B 1),.int .i8 (A 2),.int .u8 (B 2),.int .i8 (A 3),.int .u8 (B 3)] 55)).alloc (.cells #[] 81)).heap.size:=by simp
 have hm:=SzV.made0 (B:=w.heap.size+1) (w:=w.alloc (.cells #[.int .i8 (A 0),.int .u8 (B 0),.int .i8 (A 1),.int .u8 (B 1),.int .i8 (A 2),.int .u8 (B 2),.int .i8 (A 3),.int .u8 (B 3)] 55)) (by simp)
 rw [show (w.alloc (.cells #[.int .i8 (A 0),.int .u8 (B 0),.int .i8 (A 1),.int .u8 (B 1),.int .i8 (A 2),.int .u8 (B 2),.int .i8 (A 3),.int .u8 (B 3)] 55)).heap.size=w.heap.size+1 by simp] at hm
 generalize (w.alloc (.cells #[.int .i8 (A 0),.int .u8 (B 0),.int .i8 (A 1),.int .u8 (B 1),.int .i8 (A 2),.int .u8 (B 2),.int .i8 (A 3),.int .u8 (B 3)] 55)).alloc (.cells #[] 81)=X at *
 have Hc:=Lib.hid hc
 have Hm:=Lib.hid hm
 clear hc hm
 go_loopw [5,6] (fun v iv wr => ∃ i:Nat,i≤np∧iv = .int .i64 i∧Hid (SzV (w.heap.size+1) wr v (mk13L A B i))∧Below (w.heap.size+1) X wr) (fun _ iv _=>np-(intOf iv).toNat)
 case atStart=>exact ⟨0,by omega,by go_num,Hm,Below.refl _ _⟩
 case round =>
  obtain ⟨i,hi,rfl,HV,hE⟩:=hrel
  generalize wr=Y at *
  have hwY:Ext w Y:=Below.trans ex (hE.mono (by omega))
  have hYX:=hE.size
  by_cases hlt:i<np
  ·have hii:(i:Int)<(np:Int):=by omega
   obtain ⟨t,ht⟩ : ∃ t,t=i%4:=⟨_,rfl⟩
   have ht4:t<4:=by omega
   have hti:(i:Int).tmod 4=(t:Int):=by rw [Int.tmod_eq_emod_of_nonneg (by omega)]; omega
   have y0:Y.cell? ⟨w.heap.size,t*2,none⟩=some (.int .i8 (A t)):=by rw [Below.cell hE (show w.heap.size<w.heap.size+1 by omega)]; exact (Hc.out t ht4).1
   have y1:Y.cell? ⟨w.heap.size,t*2+1,none⟩=some (.int .u8 (B t)):=by rw [Below.cell hE (show w.heap.size<w.heap.size+1 by omega)]; exact (Hc.out t ht4).2
   have hfr:=Lib.hid (fun W (hW:Ext Y W)=>Fraction13_any (a:=A t) (b:=B t) (HB.out t) (HL.out.ext (hwY.trans hW)))
   have Ht:=Lib.hid ht
   have htI:(t:Int)<4:=by omega
   clear ht
   have hY8 : ∀ W,Ext Y W→w.heap.size+1≤W.heap.size:=fun W hW=>by have:=hW.size; omega
   have HY8:=Lib.hid hY8
   clear hY8
   go_wp2_with fail
   refine (hfr.out _ (Ext.refl _)).mono ?_
   rintro e Z ⟨rfl,hE2⟩
   have eA:Below (w.heap.size+1) X (Z.alloc (.cells #[I (frQ (A t) (B t)).num,I (frQ (A t) (B t)).den] 81)):=(hE.trans (Below.mono hE2 (by omega))).alloc (HY8.out Z hE2) _
   have hO:=two_alloc Z 81 (I (frQ (A t) (B t)).num) (I (frQ (A t) (B t)).den)
   have z0:=hO.cell (j:=0) (by simp)
   have z1:=hO.cell (j:=1) (by simp)
   have hZs:=HY8.out Z hE2
   have HVZ:=Lib.hid (HV.out.ext (hE2.alloc (.cells #[I (frQ (A t) (B t)).num,I (frQ (A t) (B t)).den] 81)))
   clear hO hfr y0 y1
   go_wp2_with (at_builtin; refine app_rat rfl _ _ 60 Tryz.underlying60 rfl (B:=w.heap.size+1) rfl HVZ.out (b:=Z.heap.size) (r:=frQ (A t) (B t)) rfl z0 z1 (by rw [mk13L_length]; omega) (by simp; omega) ?_; intro g9 cap9 w9 hO9 hB9 _; rw [Ht.out,mk13L_snoc,mk13L_length] at hO9; have HO9:=Lib.hid hO9; have e9:=eA.trans hB9; clear hO9 hB9)
   go_roundw
   case rel=>exact ⟨i+1,by omega,by go_num,HO9,e9⟩
   case measure=>simp [intOf] <;> omega
  ·obtain rfl:i=np:=by omega
   have Hres:=Lib.hid (And.intro (HV.out.mono (show w.heap.size≤w.heap.size+1 by omega)) hwY)
   have hii : ¬ (i:Int)<(i:Int):=by omega
   go_wp2_with fail
   go_ret
   exact ⟨⟨_,rfl,Hres.out.1⟩,Hres.out.2⟩
theorem fits18_any {w:World} {b:Int} {rv:Value} {Z:List (List Int)} {vals:Bool} (hR:RowsA w rv Z) :
  Calls Tryz.prog 12 #[.agg #[.int .u8 b,rv,.bool vals]] w fun e w'=>e = .returned (.bool (decide (Z.length≤3)))∧Ext w w':=by
 obtain ⟨sa,gb,go,cap,rfl,k1,k2,k3,k4⟩:=hR
 clear k1 k2 k3 k4
 have hX:=(Ext.refl w).alloc (.cells #[.int .u8 b,.slice sa Z.length cap,.bool vals] 24)
 have hd:decide (Z.length≤3)=decide ((Z.length:Int)≤3):=by rw [decide_eq_decide]; omega
 rw [hd]
 generalize Z.length=n at *
 clear hd
 go_enter Tryz.func12,Tryz.ntmps12
 go_wp2_with fail
 go_ret
 exact ⟨rfl,hX⟩
end Go.Proofs.YtjnpakablgommaaGreatDoor
