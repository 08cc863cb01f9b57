/- Part 42 of the proof of the claim: contracts of the functions that it reaches, and plain laws; no condition. -/
import Derived.Test.YtjnpakablgommaaGreatDoorV41
import Derived.Test.YtjnpakablgommaaGreatDoorV36
import Derived.Test.YtjnpakablgommaaGreatDoorV40
import Derived.Test.YtjnpakablgommaaGreatDoorV30
import Derived.Test.YtjnpakablgommaaGreatDoorV32
set_option maxRecDepth 100000
namespace Go.Proofs.YtjnpakablgommaaGreatDoor
open Go.RowKit Go.Sort
theorem RV_m1:RV ((-1:Int):Rat) = .agg #[.string ⟨#[45,49]⟩,.string ⟨#[49]⟩]:=by
 have e:(((-1:Int)):Rat)=(-1:Rat):=rfl
 rw [e]
 show Value.agg #[I ((-1:Rat)).num,I (((-1:Rat)).den:Int)]=_
 rw [I_m1.1,I_m1.2]
set_option maxHeartbeats 8000000 in
theorem known24_any {w:World} (hL:Laid w):Calls Tryz.prog 22 #[] w fun e w'=>e = .returned (.bool true)∧Ext w w':=by
 have HL:=Lib.hid hL
 have hw0:=Lib.hid (fun W (hW:Ext w W)=>whole24_any (n:=0) (by omega) (hL.ext hW))
 have hw1:=Lib.hid (fun W (hW:Ext w W)=>whole24_any (n:=1) (by omega) (hL.ext hW))
 have hwm:=Lib.hid (fun W (hW:Ext w W)=>whole24_any (n := -1) (by omega) (hL.ext hW))
 have hp:=Lib.hid (fun W (hW:Ext w W)=>part24_any (n:=1) (d:=4) (by omega) (by omega) (by omega) (hL.ext hW))
 rw [RV_zero] at hw0
 rw [RV_one] at hw1
 rw [RV_m1] at hwm
 rw [RV_four] at hp
 clear hL
 go_enter Tryz.func22,Tryz.ntmps22
 go_wp2_with fail
 refine (meantone24_any HL.out).mono ?_
 rintro e W1 ⟨t,rfl,ht,hE1⟩
 obtain ⟨sp,cp,sc,lc,cc,sm,lm,cm,sg,lg,cg,rfl,hT⟩:=ht
 have ea:=(Ext.refl W1).alloc (.cells #[.slice sp mtP.length cp,.slice sc lc cc,.slice sm lm cm,.slice sg lg cg] 67)
 have e1:=hE1.trans ea
 have x0:(W1.alloc (.cells #[.slice sp mtP.length cp,.slice sc lc cc,.slice sm lm cm,.slice sg lg cg] 67)).cell? ⟨W1.heap.size,0,none⟩=some (.slice sp mtP.length cp):=by go_simp
 have x1:(W1.alloc (.cells #[.slice sp mtP.length cp,.slice sc lc cc,.slice sm lm cm,.slice sg lg cg] 67)).cell? ⟨W1.heap.size,1,none⟩=some (.slice sc lc cc):=by go_simp
 have x2:(W1.alloc (.cells #[.slice sp mtP.length cp,.slice sc lc cc,.slice sm lm cm,.slice sg lg cg] 67)).cell? ⟨W1.heap.size,2,none⟩=some (.slice sm lm cm):=by go_simp
 have x3:(W1.alloc (.cells #[.slice sp mtP.length cp,.slice sc lc cc,.slice sm lm cm,.slice sg lg cg] 67)).cell? ⟨W1.heap.size,3,none⟩=some (.slice sg lg cg):=by go_simp
 have HT:=Lib.hid (hT.ext ea)
 obtain ⟨X,hXd⟩ : ∃ X,X=W1.alloc (.cells #[.slice sp mtP.length cp,.slice sc lc cc,.slice sm lm cm,.slice sg lg cg] 67):=⟨_,rfl⟩
 rw [← hXd] at x0 x1 x2 x3 HT e1
 have eR:=(Ext.refl X).alloc (.cells #[.int .i64 (-1),.int .i64 1,.int .i64 0] 3)
 have r1:RowR (X.alloc (.cells #[.int .i64 (-1),.int .i64 1,.int .i64 0] 3)) (.slice (some ⟨X.heap.size,0,none⟩) 3 3) [-1,1,0]:=row3N (by go_simp) (by go_simp) (by go_simp)
 have HE1:=Lib.hid (show Calls Tryz.prog 31 #[tuS mtP sp cp sc lc cc sm lm cm sg lg cg,.slice (some ⟨X.heap.size,0,none⟩) 3 3] (X.alloc (.cells #[.int .i64 (-1),.int .i64 1,.int .i64 0] 3)) (ErPost (X.alloc (.cells #[.int .i64 (-1),.int .i64 1,.int .i64 0] 3)) 3 mtM mtG [-1,1,0]) from tuError_any (HT.out.ext eR) r1 (HL.out.ext (e1.trans eR)))
 have hXs:X.heap.size=W1.heap.size+1:=by rw [hXd]; simp
 rw [hXs] at HE1 r1
 rw [hXd] at HE1
 clear hT hE1 ea r1 hXs
 go_wp2_with fail
 refine HE1.out.mono ?_
 rw [← hXd]
 clear HE1 hXd
 rintro e Y ⟨hE2,(⟨q,_⟩ | ⟨_,q,_⟩ | ⟨_,_,g1,rfl,hO1⟩)⟩
 ·exact absurd k24_e1 q
 ·exact absurd k24_s1 q
 have e2:=eR.trans hE2
 replace x0:=e2.cell x0
 replace x1:=e2.cell x1
 replace x2:=e2.cell x2
 replace x3:=e2.cell x3
 have HT2:=Lib.hid (HT.out.ext e2)
 have e3:=e1.trans e2
 have HO1:=Lib.hid (show SzO X.heap.size Y g1 [1,-1,1/4] by have:=hO1.mono (B':=X.heap.size) (by simp); rw [k24_l1] at this; exact this)
 clear hE2 e2 eR hO1 HT e1
 obtain ⟨bt,hbt⟩ : ∃ b,b=W1.heap.size:=⟨_,rfl⟩
 rw [← hbt] at x0 x1 x2 x3 ⊢
 clear hbt
 have eS:=(Ext.refl Y).alloc (.cells #[.int .i64 (-2),.int .i64 0,.int .i64 1] 3)
 have r2:RowR (Y.alloc (.cells #[.int .i64 (-2),.int .i64 0,.int .i64 1] 3)) (.slice (some ⟨Y.heap.size,0,none⟩) 3 3) [-2,0,1]:=row3N (by go_simp) (by go_simp) (by go_simp)
 have HE2:=Lib.hid (show Calls Tryz.prog 31 #[tuS mtP sp cp sc lc cc sm lm cm sg lg cg,.slice (some ⟨Y.heap.size,0,none⟩) 3 3] (Y.alloc (.cells #[.int .i64 (-2),.int .i64 0,.int .i64 1] 3)) (ErPost (Y.alloc (.cells #[.int .i64 (-2),.int .i64 0,.int .i64 1] 3)) 3 mtM mtG [-2,0,1]) from tuError_any (HT2.out.ext eS) r2 (HL.out.ext (e3.trans eS)))
 clear r2
 go_wp2_with fail
 refine HE2.out.mono ?_
 rintro e Z ⟨hE4,(⟨q,_⟩ | ⟨_,q,_⟩ | ⟨_,_,g2,rfl,hO2⟩)⟩
 ·exact absurd k24_e2 q
 ·exact absurd k24_s2 q
 have e4:=eS.trans hE4
 replace x0:=e4.cell x0
 replace x1:=e4.cell x1
 replace x2:=e4.cell x2
 replace x3:=e4.cell x3
 have HT3:=Lib.hid (HT2.out.ext e4)
 have e5:=e3.trans e4
 have HO1:=Lib.hid (HO1.out.ext e4)
 have HO2:=Lib.hid (show SzO Y.heap.size Z g2 [0,0,0] by have:=hO2.mono (B':=Y.heap.size) (by simp); rw [k24_l2] at this; exact this)
 have HPu:=Lib.hid (show Calls Tryz.prog 32 #[tuS mtP sp cp sc lc cc sm lm cm sg lg cg] Z fun e w'=>e = .returned (.tuple #[.bool true,.int .i64 0])∧Ext Z w' from by
  have h:=tuPure_any HT3.out (HL.out.ext e5)
  have h2:decide (tuL mtP.length mtM mtG (unitL mtP.length 0)=nbL (unitL mtP.length 0))=true:=k24_p
  rw [h2] at h; exact h)
 clear hE4 e4 eS hO2 HT2 e3 HE2
 go_wp2_with fail
 refine HPu.out.mono ?_
 rintro e Z2 ⟨rfl,hE6⟩
 replace x0:=hE6.cell x0
 replace x1:=hE6.cell x1
 replace x2:=hE6.cell x2
 replace x3:=hE6.cell x3
 have e7:=e5.trans hE6
 have HTx:=Lib.hid (tuText_any (HT3.out.ext hE6) (HL.out.ext e7))
 rw [k24_t] at HTx
 clear HPu
 go_wp2_with fail
 refine HTx.out.mono ?_
 rintro e Z3 ⟨rfl,hE8⟩
 have e9:=e7.trans hE8
 have HO1:=HO1.out.ext (hE6.trans hE8)
 have HO2:=HO2.out.ext (hE6.trans hE8)
 have c00:Z3.cell? ⟨g1,0,none⟩=some (.string ⟨#[49]⟩):=by have:=(HO1.cells (i:=0) (by simp)).1; rw [← I_one1.1]; exact this
 have c01:Z3.cell? ⟨g1,1,none⟩=some (.string ⟨#[49]⟩):=by have:=(HO1.cells (i:=0) (by simp)).2; rw [← I_one1.2]; exact this
 have c10:Z3.cell? ⟨g1,2,none⟩=some (.string ⟨#[45,49]⟩):=by have:=(HO1.cells (i:=1) (by simp)).1; rw [← I_m1.1]; exact this
 have c11:Z3.cell? ⟨g1,3,none⟩=some (.string ⟨#[49]⟩):=by have:=(HO1.cells (i:=1) (by simp)).2; rw [← I_m1.2]; exact this
 have c20:Z3.cell? ⟨g1,4,none⟩=some (.string ⟨#[49]⟩):=by have:=(HO1.cells (i:=2) (by simp)).1; rw [← I_four4.1]; exact this
 have c21:Z3.cell? ⟨g1,5,none⟩=some (.string ⟨#[52]⟩):=by have:=(HO1.cells (i:=2) (by simp)).2; rw [← I_four4.2]; exact this
 have d00:Z3.cell? ⟨g2,0,none⟩=some (.string ⟨#[48]⟩):=by have:=(HO2.cells (i:=0) (by simp)).1; rw [← I_zeroR.1]; exact this
 have d01:Z3.cell? ⟨g2,1,none⟩=some (.string ⟨#[49]⟩):=by have:=(HO2.cells (i:=0) (by simp)).2; rw [← I_zeroR.2]; exact this
 have d20:Z3.cell? ⟨g2,4,none⟩=some (.string ⟨#[48]⟩):=by have:=(HO2.cells (i:=2) (by simp)).1; rw [← I_zeroR.1]; exact this
 have d21:Z3.cell? ⟨g2,5,none⟩=some (.string ⟨#[49]⟩):=by have:=(HO2.cells (i:=2) (by simp)).2; rw [← I_zeroR.2]; exact this
 clear HTx HT3 e5 hE6 e7 hE8 HO1 HO2 x0 x1 x2 x3
 go_wp2_with fail
 have d0:Ext Z3 Z3.drew:=(Ext.refl Z3).drew
 refine wp_region_held_tail (S:=fun W=>Ext Z3 W) 66 (by kernel_rfl) (by simp) ?_
 intro inv
 generalize Z3.drew=Z4 at *
 refine wpAnyLH_take (i:=0) (v := .int .i64 0) rfl (by kernel_rfl) (fun _ _ _ h=>h) (.inl ⟨by rfl,fun W hW=>by go_simp⟩) d0 inv ?_
 intro inv
 go_simp
 refine wpAnyLH_take (i:=1) (v := .bool true) rfl (by kernel_rfl) (fun _ _ _ h=>h) (.inl ⟨by rfl,fun W hW=>by go_simp⟩) d0 inv ?_
 intro inv
 go_simp
 refine wpAnyLH_take (i:=2) (v := .bool true) rfl (by kernel_rfl) (fun _ _ _ h=>h) (.inl ⟨by rfl,fun W hW=>by go_simp⟩) d0 inv ?_
 intro inv
 go_simp
 refine wpAnyLH_take (i:=3) (v:=slv g1 3 3) rfl (by kernel_rfl) (fun _ _ _ h=>h) (.inl ⟨by rfl,fun W hW=>by go_simp⟩) d0 inv ?_
 intro inv
 go_simp
 refine wpAnyLH_take (i:=4) (v := .int .i64 3) rfl (by kernel_rfl) (fun _ _ _ h=>h) (.inl ⟨by rfl,fun W hW=>by go_simp⟩) d0 inv ?_
 intro inv
 go_simp
 refine wpAnyLH_take (i:=5) (v := .bool true) rfl (by kernel_rfl) (fun _ _ _ h=>h) (.inl ⟨by rfl,fun W hW=>by go_simp⟩) d0 inv ?_
 intro inv
 go_simp
 refine wpAnyLH_take (i:=6) (v := .bool true) rfl (by kernel_rfl) (fun _ _ _ h=>h) (.inl ⟨by rfl,fun W hW=>by go_simp⟩) d0 inv ?_
 intro inv
 go_simp
 refine wpAnyLH_take (i:=7) (v := .bool true) rfl (by kernel_rfl) (fun _ _ _ h=>h) (.inl ⟨by rfl,fun W hW=>by go_simp⟩) d0 inv ?_
 intro inv
 go_simp
 refine wpAnyLH_take (i:=8) (v:=slv g1 3 3) rfl (by kernel_rfl) (fun _ _ _ h=>h) (.inl ⟨by rfl,fun W hW=>by go_simp⟩) d0 inv ?_
 intro inv
 go_simp
 refine wpAnyLH_take (i:=9) (v := .pointer (some ⟨g1,0,none⟩)) rfl (by kernel_rfl) (fun _ _ _ h=>h) (.inl ⟨by rfl,fun W hW=>by go_simp⟩) d0 inv ?_
 intro inv
 go_simp
 refine wpAnyLH_take (i:=10) (v := .agg #[.string ⟨#[49]⟩,.string ⟨#[49]⟩]) rfl (by kernel_rfl) (fun _ _ _ h=>h) (.inl ⟨by rfl,fun W hW=>by have z0:=hW.cell c00; have z1:=hW.cell c01; go_simp⟩) d0 inv ?_
 intro inv
 go_simp
 refine wpAnyLH_oneI (i:=11) rfl (by kernel_rfl) inv (fun inv K0 hK0 => ?_)
 go_simp
 refine (hw1.out _ (e9.trans d0)).mono ?_
 rintro e Y1 ⟨rfl,hF1⟩
 have d1:=d0.trans hF1
 refine hK0 _ _ d1 ?_
 clear hK0
 refine wpAnyLH_take (i:=12) (v := .bool true) rfl (by kernel_rfl) (fun _ _ _ h=>h) (.inl ⟨by rfl,fun W hW=>by go_simp⟩) d1 inv ?_
 intro inv
 go_simp
 refine wpAnyLH_take (i:=13) (v := .bool true) rfl (by kernel_rfl) (fun _ _ _ h=>h) (.inl ⟨by rfl,fun W hW=>by go_simp⟩) d1 inv ?_
 intro inv
 go_simp
 refine wpAnyLH_take (i:=14) (v := .bool true) rfl (by kernel_rfl) (fun _ _ _ h=>h) (.inl ⟨by rfl,fun W hW=>by go_simp⟩) d1 inv ?_
 intro inv
 go_simp
 refine wpAnyLH_take (i:=15) (v:=slv g1 3 3) rfl (by kernel_rfl) (fun _ _ _ h=>h) (.inl ⟨by rfl,fun W hW=>by go_simp⟩) d1 inv ?_
 intro inv
 go_simp
 refine wpAnyLH_take (i:=16) (v := .pointer (some ⟨g1,2,none⟩)) rfl (by kernel_rfl) (fun _ _ _ h=>h) (.inl ⟨by rfl,fun W hW=>by go_simp⟩) d1 inv ?_
 intro inv
 go_simp
 refine wpAnyLH_take (i:=17) (v := .agg #[.string ⟨#[45,49]⟩,.string ⟨#[49]⟩]) rfl (by kernel_rfl) (fun _ _ _ h=>h) (.inl ⟨by rfl,fun W hW=>by have z0:=hW.cell c10; have z1:=hW.cell c11; go_simp⟩) d1 inv ?_
 intro inv
 go_simp
 refine wpAnyLH_oneI (i:=18) rfl (by kernel_rfl) inv (fun inv K0 hK0 => ?_)
 go_simp
 refine (hwm.out _ (e9.trans d1)).mono ?_
 rintro e Y2 ⟨rfl,hF2⟩
 have d2:=d1.trans hF2
 refine hK0 _ _ d2 ?_
 clear hK0
 refine wpAnyLH_take (i:=19) (v := .bool true) rfl (by kernel_rfl) (fun _ _ _ h=>h) (.inl ⟨by rfl,fun W hW=>by go_simp⟩) d2 inv ?_
 intro inv
 go_simp
 refine wpAnyLH_take (i:=20) (v := .bool true) rfl (by kernel_rfl) (fun _ _ _ h=>h) (.inl ⟨by rfl,fun W hW=>by go_simp⟩) d2 inv ?_
 intro inv
 go_simp
 refine wpAnyLH_take (i:=21) (v := .bool true) rfl (by kernel_rfl) (fun _ _ _ h=>h) (.inl ⟨by rfl,fun W hW=>by go_simp⟩) d2 inv ?_
 intro inv
 go_simp
 refine wpAnyLH_take (i:=22) (v:=slv g1 3 3) rfl (by kernel_rfl) (fun _ _ _ h=>h) (.inl ⟨by rfl,fun W hW=>by go_simp⟩) d2 inv ?_
 intro inv
 go_simp
 refine wpAnyLH_take (i:=23) (v := .pointer (some ⟨g1,4,none⟩)) rfl (by kernel_rfl) (fun _ _ _ h=>h) (.inl ⟨by rfl,fun W hW=>by go_simp⟩) d2 inv ?_
 intro inv
 go_simp
 refine wpAnyLH_take (i:=24) (v := .agg #[.string ⟨#[49]⟩,.string ⟨#[52]⟩]) rfl (by kernel_rfl) (fun _ _ _ h=>h) (.inl ⟨by rfl,fun W hW=>by have z0:=hW.cell c20; have z1:=hW.cell c21; go_simp⟩) d2 inv ?_
 intro inv
 go_simp
 refine wpAnyLH_oneI (i:=25) rfl (by kernel_rfl) inv (fun inv K0 hK0 => ?_)
 go_simp
 refine (hp.out _ (e9.trans d2)).mono ?_
 rintro e Y3 ⟨rfl,hF3⟩
 have d3:=d2.trans hF3
 refine hK0 _ _ d3 ?_
 clear hK0
 refine wpAnyLH_take (i:=26) (v := .bool true) rfl (by kernel_rfl) (fun _ _ _ h=>h) (.inl ⟨by rfl,fun W hW=>by go_simp⟩) d3 inv ?_
 intro inv
 go_simp
 refine wpAnyLH_take (i:=27) (v := .bool true) rfl (by kernel_rfl) (fun _ _ _ h=>h) (.inl ⟨by rfl,fun W hW=>by go_simp⟩) d3 inv ?_
 intro inv
 go_simp
 refine wpAnyLH_take (i:=28) (v := .bool true) rfl (by kernel_rfl) (fun _ _ _ h=>h) (.inl ⟨by rfl,fun W hW=>by go_simp⟩) d3 inv ?_
 intro inv
 go_simp
 refine wpAnyLH_take (i:=29) (v := .int .i64 0) rfl (by kernel_rfl) (fun _ _ _ h=>h) (.inl ⟨by rfl,fun W hW=>by go_simp⟩) d3 inv ?_
 intro inv
 go_simp
 refine wpAnyLH_take (i:=30) (v := .bool true) rfl (by kernel_rfl) (fun _ _ _ h=>h) (.inl ⟨by rfl,fun W hW=>by go_simp⟩) d3 inv ?_
 intro inv
 go_simp
 refine wpAnyLH_take (i:=31) (v := .bool true) rfl (by kernel_rfl) (fun _ _ _ h=>h) (.inl ⟨by rfl,fun W hW=>by go_simp⟩) d3 inv ?_
 intro inv
 go_simp
 refine wpAnyLH_take (i:=32) (v := .bool true) rfl (by kernel_rfl) (fun _ _ _ h=>h) (.inl ⟨by rfl,fun W hW=>by go_simp⟩) d3 inv ?_
 intro inv
 go_simp
 refine wpAnyLH_take (i:=33) (v:=slv g2 3 3) rfl (by kernel_rfl) (fun _ _ _ h=>h) (.inl ⟨by rfl,fun W hW=>by go_simp⟩) d3 inv ?_
 intro inv
 go_simp
 refine wpAnyLH_take (i:=34) (v := .int .i64 3) rfl (by kernel_rfl) (fun _ _ _ h=>h) (.inl ⟨by rfl,fun W hW=>by go_simp⟩) d3 inv ?_
 intro inv
 go_simp
 refine wpAnyLH_take (i:=35) (v := .bool true) rfl (by kernel_rfl) (fun _ _ _ h=>h) (.inl ⟨by rfl,fun W hW=>by go_simp⟩) d3 inv ?_
 intro inv
 go_simp
 refine wpAnyLH_take (i:=36) (v := .bool true) rfl (by kernel_rfl) (fun _ _ _ h=>h) (.inl ⟨by rfl,fun W hW=>by go_simp⟩) d3 inv ?_
 intro inv
 go_simp
 refine wpAnyLH_take (i:=37) (v := .bool true) rfl (by kernel_rfl) (fun _ _ _ h=>h) (.inl ⟨by rfl,fun W hW=>by go_simp⟩) d3 inv ?_
 intro inv
 go_simp
 refine wpAnyLH_take (i:=38) (v:=slv g2 3 3) rfl (by kernel_rfl) (fun _ _ _ h=>h) (.inl ⟨by rfl,fun W hW=>by go_simp⟩) d3 inv ?_
 intro inv
 go_simp
 refine wpAnyLH_take (i:=39) (v := .pointer (some ⟨g2,0,none⟩)) rfl (by kernel_rfl) (fun _ _ _ h=>h) (.inl ⟨by rfl,fun W hW=>by go_simp⟩) d3 inv ?_
 intro inv
 go_simp
 refine wpAnyLH_take (i:=40) (v := .agg #[.string ⟨#[48]⟩,.string ⟨#[49]⟩]) rfl (by kernel_rfl) (fun _ _ _ h=>h) (.inl ⟨by rfl,fun W hW=>by have z0:=hW.cell d00; have z1:=hW.cell d01; go_simp⟩) d3 inv ?_
 intro inv
 go_simp
 refine wpAnyLH_oneI (i:=41) rfl (by kernel_rfl) inv (fun inv K0 hK0 => ?_)
 go_simp
 refine (hw0.out _ (e9.trans d3)).mono ?_
 rintro e Y4 ⟨rfl,hF4⟩
 have d4:=d3.trans hF4
 refine hK0 _ _ d4 ?_
 clear hK0
 refine wpAnyLH_take (i:=42) (v := .bool true) rfl (by kernel_rfl) (fun _ _ _ h=>h) (.inl ⟨by rfl,fun W hW=>by go_simp⟩) d4 inv ?_
 intro inv
 go_simp
 refine wpAnyLH_take (i:=43) (v := .bool true) rfl (by kernel_rfl) (fun _ _ _ h=>h) (.inl ⟨by rfl,fun W hW=>by go_simp⟩) d4 inv ?_
 intro inv
 go_simp
 refine wpAnyLH_take (i:=44) (v := .bool true) rfl (by kernel_rfl) (fun _ _ _ h=>h) (.inl ⟨by rfl,fun W hW=>by go_simp⟩) d4 inv ?_
 intro inv
 go_simp
 refine wpAnyLH_take (i:=45) (v:=slv g2 3 3) rfl (by kernel_rfl) (fun _ _ _ h=>h) (.inl ⟨by rfl,fun W hW=>by go_simp⟩) d4 inv ?_
 intro inv
 go_simp
 refine wpAnyLH_take (i:=46) (v := .pointer (some ⟨g2,4,none⟩)) rfl (by kernel_rfl) (fun _ _ _ h=>h) (.inl ⟨by rfl,fun W hW=>by go_simp⟩) d4 inv ?_
 intro inv
 go_simp
 refine wpAnyLH_take (i:=47) (v := .agg #[.string ⟨#[48]⟩,.string ⟨#[49]⟩]) rfl (by kernel_rfl) (fun _ _ _ h=>h) (.inl ⟨by rfl,fun W hW=>by have z0:=hW.cell d20; have z1:=hW.cell d21; go_simp⟩) d4 inv ?_
 intro inv
 go_simp
 refine wpAnyLH_oneI (i:=48) rfl (by kernel_rfl) inv (fun inv K0 hK0 => ?_)
 go_simp
 refine (hw0.out _ (e9.trans d4)).mono ?_
 rintro e Y5 ⟨rfl,hF5⟩
 have d5:=d4.trans hF5
 refine hK0 _ _ d5 ?_
 clear hK0
 refine wpAnyLH_take (i:=49) (v := .bool true) rfl (by kernel_rfl) (fun _ _ _ h=>h) (.inl ⟨by rfl,fun W hW=>by go_simp⟩) d5 inv ?_
 intro inv
 go_simp
 refine wpAnyLH_take (i:=50) (v := .bool true) rfl (by kernel_rfl) (fun _ _ _ h=>h) (.inl ⟨by rfl,fun W hW=>by go_simp⟩) d5 inv ?_
 intro inv
 go_simp
 refine wpAnyLH_take (i:=51) (v := .bool true) rfl (by kernel_rfl) (fun _ _ _ h=>h) (.inl ⟨by rfl,fun W hW=>by go_simp⟩) d5 inv ?_
 intro inv
 go_simp
 refine wpAnyLH_take (i:=52) (v := .bool true) rfl (by kernel_rfl) (fun _ _ _ h=>h) (.inl ⟨by rfl,fun W hW=>by go_simp⟩) d5 inv ?_
 intro inv
 go_simp
 refine wpAnyLH_take (i:=53) (v := .bool true) rfl (by kernel_rfl) (fun _ _ _ h=>h) (.inl ⟨by rfl,fun W hW=>by go_simp⟩) d5 inv ?_
 intro inv
 go_simp
 refine wpAnyLH_take (i:=54) (v := .bool true) rfl (by kernel_rfl) (fun _ _ _ h=>h) (.inl ⟨by rfl,fun W hW=>by go_simp⟩) d5 inv ?_
 intro inv
 go_simp
 refine wpAnyLH_take (i:=55) (v := .int .i64 0) rfl (by kernel_rfl) (fun _ _ _ h=>h) (.inl ⟨by rfl,fun W hW=>by go_simp⟩) d5 inv ?_
 intro inv
 go_simp
 refine wpAnyLH_take (i:=56) (v := .bool true) rfl (by kernel_rfl) (fun _ _ _ h=>h) (.inl ⟨by rfl,fun W hW=>by go_simp⟩) d5 inv ?_
 intro inv
 go_simp
 refine wpAnyLH_take (i:=57) (v := .bool true) rfl (by kernel_rfl) (fun _ _ _ h=>h) (.inl ⟨by rfl,fun W hW=>by go_simp⟩) d5 inv ?_
 intro inv
 go_simp
 refine wpAnyLH_take (i:=58) (v := .bool true) rfl (by kernel_rfl) (fun _ _ _ h=>h) (.inl ⟨by rfl,fun W hW=>by go_simp⟩) d5 inv ?_
 intro inv
 go_simp
 refine wpAnyLH_take (i:=59) (v := .string ⟨#[50,44,32,50,32,53,94,40,49,47,52,41]⟩) rfl (by kernel_rfl) (fun _ _ _ h=>h) (.inl ⟨by rfl,fun W hW=>by go_simp⟩) d5 inv ?_
 intro inv
 go_simp
 refine wpAnyLH_take (i:=60) (v := .bool true) rfl (by kernel_rfl) (fun _ _ _ h=>h) (.inl ⟨by rfl,fun W hW=>by go_simp⟩) d5 inv ?_
 intro inv
 go_simp
 refine wpAnyLH_take (i:=61) (v := .bool true) rfl (by kernel_rfl) (fun _ _ _ h=>h) (.inl ⟨by rfl,fun W hW=>by go_simp⟩) d5 inv ?_
 intro inv
 go_simp
 refine wpAnyLH_take (i:=62) (v := .bool true) rfl (by kernel_rfl) (fun _ _ _ h=>h) (.inl ⟨by rfl,fun W hW=>by go_simp⟩) d5 inv ?_
 intro inv
 go_simp
 refine wpAnyLH_take (i:=63) (v := .int .i64 0) rfl (by kernel_rfl) (fun _ _ _ h=>h) (.inl ⟨by rfl,fun W hW=>by go_simp⟩) d5 inv ?_
 intro inv
 go_simp
 refine wpAnyLH_take (i:=64) (v := .bool true) rfl (by kernel_rfl) (fun _ _ _ h=>h) (.inl ⟨by rfl,fun W hW=>by go_simp⟩) d5 inv ?_
 intro inv
 go_simp
 refine wpAnyLH_take (i:=65) (v := .bool true) rfl (by kernel_rfl) (fun _ _ _ h=>h) (.inl ⟨by rfl,fun W hW=>by go_simp⟩) d5 inv ?_
 intro inv
 go_simp
 refine wpAnyLH_end (by kernel_rfl) ?_
 have e9:=e9.trans d5
 clear inv
 go_wp2_with fail
 go_ret
 exact ⟨rfl,e9⟩
def shfG (G:List (List Rat)) (q:List Rat) (at':Int) (n:Nat):List (List Rat):=(List.range G.length).map fun i=>cmbQ [G.getD i [],q] [1,if (i:Int)=at' then 1 else 0] n
@[simp] theorem shfG_length (G:List (List Rat)) (q:List Rat) (t:Int) (n:Nat):(shfG G q t n).length=G.length:=by simp [shfG]
def bldG (G G':List (List Rat)) (k:Rat) (n:Nat):List (List Rat):=(List.range G.length).map fun i=>cmbQ [G.getD i [],G'.getD i []] [1-k,k] n
@[simp] theorem bldG_length (G G':List (List Rat)) (k:Rat) (n:Nat):(bldG G G' k n).length=G.length:=by simp [bldG]
theorem md_yes {w:World} {P:List Int} {C M:Mx} {G:List (List Rat)} {e:Ending} {w':World} (h:MdPost w P C M G e w') (hG : ∀ l∈G,szE l=0):(∃ t,e = .returned (.tuple #[t,.int .i64 0])∧TuR w' t P C M G)∧Ext w w':=by
 obtain ⟨h1,(⟨_,h2⟩ | ⟨⟨l,hl,h3⟩,_⟩)⟩:=h
 ·exact ⟨h2,h1⟩
 ·exact absurd (hG l hl) h3
theorem SzR.slice {w:World} {v:Value} {l:List Rat} (h:SzR w v l) : ∃ a c,v = .slice a l.length c:=by
 obtain ⟨a,b,g0,c,e,_⟩:=h
 exact ⟨a,c,e⟩
def emQ:Value×Value:=(.string ⟨#[]⟩,.string ⟨#[]⟩)
def c24 (L:List (List Rat)) (fs:List Rat) (np c:Nat) (o:Value×Value):List (Value×Value):=(List.range np).map fun t=>if t<c then qv (qR (sumR (cmbF L fs t) L.length)) else if t=c then o else emQ
@[simp] theorem c24_length (L:List (List Rat)) (fs:List Rat) (np c:Nat) (o:Value×Value):(c24 L fs np c o).length=np:=by simp [c24]
theorem c24_get {L:List (List Rat)} {fs:List Rat} {np c t:Nat} {o:Value×Value} (h:t<(c24 L fs np c o).length):(c24 L fs np c o)[t]=if t<c then qv (qR (sumR (cmbF L fs t) L.length)) else if t=c then o else emQ:=by simp [c24]
theorem c24_at {L:List (List Rat)} {fs:List Rat} {np c:Nat} {o:Value×Value} (h:c<np):(c24 L fs np c o)[c]? = some o:=by
 rw [List.getElem?_eq_getElem (by simpa using h),c24_get,if_neg (by omega),if_pos rfl]
theorem c24_set (L:List (List Rat)) (fs:List Rat) (np c:Nat) (o o':Value×Value):(c24 L fs np c o).set c o'=c24 L fs np c o':=by
 refine List.ext_getElem (by simp) fun t h1 h2 => ?_
 rw [List.getElem_set]
 by_cases e:c=t
 ·subst e
  rw [if_pos rfl,c24_get,if_neg (by omega),if_pos rfl]
 ·rw [if_neg e,c24_get,c24_get,if_neg (show ¬ t=c by omega),if_neg (show ¬ t=c by omega)]
theorem c24_next (L:List (List Rat)) (fs:List Rat) (np c:Nat):c24 L fs np c (qv (qR (sumR (cmbF L fs c) L.length)))=c24 L fs np (c+1) emQ:=by
 refine List.ext_getElem (by simp) fun t h1 h2 => ?_
 rw [c24_get,c24_get]
 by_cases h:t<c
 ·rw [if_pos h,if_pos (by omega)]
 ·rw [if_neg h]
  by_cases e:t=c
  ·subst e; rw [if_pos rfl,if_pos (by omega)]
  ·rw [if_neg e,if_neg (by omega)]
   split <;> rfl
theorem c24_start (L:List (List Rat)) (fs:List Rat) (np:Nat):c24 L fs np 0 emQ=List.replicate np emQ:=by
 refine List.ext_getElem (by simp) fun t h1 h2 => ?_
 rw [c24_get,if_neg (by omega),List.getElem_replicate]
 split <;> rfl
theorem c24_end (L:List (List Rat)) (fs:List Rat) (np:Nat):c24 L fs np np emQ=(cmbQ L fs np).map fun r=>qv (qR r):=by
 refine List.ext_getElem (by simp) fun t h1 h2 => ?_
 have:t<np:=by simpa using h1
 rw [c24_get,if_pos this,List.getElem_map,cmbQ_get]
theorem FrV.own {B g:Nat} {w:World} {l:List Rat} (h:FrV B w g (l.map fun r=>qv (qR r))):SzO B w g l:=by
 unfold FrV at h
 rw [List.length_map] at h; exact h
theorem FrV.stepE {B g i:Nat} {w W:World} {l:List (Value×Value)} (hE:Ext w W) (hg:w.heap.size≤g) (h:FrV B W g l) {p:Value×Value} (hi:l[i]? = some p) (x y:Value) :
  W.cell? ⟨g,i*2,none⟩=some p.1∧W.cell? ⟨g,i*2+1,none⟩=some p.2∧W.frozen? ⟨g,i*2,none⟩=false∧W.frozen? ⟨g,i*2+1,none⟩=false ∧
   Hid (FrV B ((W.setCell ⟨g,i*2,none⟩ x).setCell ⟨g,i*2+1,none⟩ y) g (l.set i (x,y))) ∧
   Hid (Ext w ((W.setCell ⟨g,i*2,none⟩ x).setCell ⟨g,i*2+1,none⟩ y)):=by
 obtain ⟨c0,c1⟩:=h.cells hi
 obtain ⟨h1,g1,f0,f1⟩:=h.set i (x,y)
 exact ⟨c0,c1,f0,f1,Lib.hid h1,Lib.hid (ext_trans_grown hE g1 hg)⟩
set_option maxHeartbeats 4000000 in
theorem combine24_any {w:World} {np:Nat} {v fv:Value} {L:List (List Rat)} {fs:List Rat} (hG:GnR w v L) (hf:SzR w fv fs) (hc : ∀ l∈L,l.length=np) (hfl:L.length≤fs.length) (hE : ∀ l∈L,∀ r∈l,NdQ 1000 r) (hF : ∀ r∈fs,NdQ 1000 r) (hn:np≤1000) (hk:L.length≤1000) (hL:Laid w) :
  Calls Tryz.prog 41 #[v,fv,.int .i64 np] w fun e w'=>(∃ g,e = .returned (slv g np np)∧SzO w.heap.size w' g (cmbQ L fs np))∧Ext w w':=by
 obtain ⟨i0,hi,hz0,hz1,hz2⟩:=info_parts Tryz.infoRat
 obtain ⟨sa,gb,go,cap,vs,rfl,hcap,hvl,hS,hr⟩:=hG
 obtain ⟨fa,fb,fo,fcap,rfl,hfc,hfa,hfr⟩:=hf
 have HS:=Lib.hid hS
 have Hr:=Lib.hid hr
 have Hv:=Lib.hid hvl
 have Hc:=Lib.hid hc
 have Hfa:=Lib.hid hfa
 have Hfr:=Lib.hid hfr
 have HL:=Lib.hid hL
 have Hnd:=Lib.hid (fun c k=>cmbF_nd (c:=c) (k:=k) hE hF (by omega) (by omega))
 have Hsum:=Lib.hid (fun c k (h:k≤1000)=>(sumR_nd k (fun t _=>cmbF_nd (c:=c) (k:=t) hE hF (by omega) (by omega))).smQ (by have:k*(1000+1000+1)≤1000*(1000+1000+1):=Nat.mul_le_mul_right _ h; omega))
 have Hss:=Lib.hid (fun k i (h:k<L.length) (h2:i<L[k].length) s (hs:s=L[k][i])=>show SmQ s by rw [hs]; exact (hE _ (List.getElem_mem h) _ (List.getElem_mem h2)).smQ (by omega))
 have Hpp:=Lib.hid (fun k (h:k<fs.length) s (hs:fs[k]=s)=>show SmQ s by rw [← hs]; exact (hF _ (List.getElem_mem h)).smQ (by omega))
 have hw0:=Lib.hid (fun W (hW:Ext w W)=>whole24_any (n:=0) (by omega) (hL.ext hW))
 rw [show (((0:Int):Rat))=(0:Rat) from rfl] at hw0
 obtain ⟨m,hm⟩ : ∃ m,m=L.length:=⟨_,rfl⟩
 obtain ⟨q,hq⟩ : ∃ q,q=fs.length:=⟨_,rfl⟩
 rw [← hm] at hcap hfl hk ⊢
 rw [← hq] at hfc hfl ⊢
 have Hm:=Lib.hid hm
 have Hq:=Lib.hid hq
 clear hS hr hvl hc hfa hfr hL hE hF hm hq
 go_enter Tryz.func41,Tryz.ntmps41
 go_wp2_with (at_make; refine wpList_make_full _ rfl _ _ 60 rfl w.heap.size 81 i0 (.agg #[.string ⟨#[]⟩,.string ⟨#[]⟩]) 2 Tryz.underlying60 hi hz0 hz1 .i64 .i64 _ _ np rfl rfl (by omega) (by omega) (by rw [hz2]; omega) (by unfold maxLen; omega) (Nat.le_refl _) ?_; intro w0 hown1 hgrow1)
 have e0:=ext_grown hgrow1
 have HO:=Lib.hid (show FrV w.heap.size w0 w.heap.size (c24 L fs np 0 emQ) by
  rw [c24_start]; exact frv_made hown1 (by omega))
 clear hgrow1 hown1 hi hz0 hz1 hz2
 obtain ⟨g,hg⟩ : ∃ g,g=w.heap.size:=⟨_,rfl⟩
 have Hgw:=Lib.hid (show w.heap.size≤g by omega)
 rw [← hg] at HO ⊢
 have Hg:=Lib.hid hg
 clear hg
 go_loopw [8] (fun cv wr => ∃ c:Nat,c≤np∧cv = .int .i64 c∧Hid (FrV g wr g (c24 L fs np c emQ))∧Ext w wr) (fun cv _=>np-(intOf cv).toNat)
 case atStart=>exact ⟨0,by omega,by go_num,HO,e0⟩
 case round =>
  obtain ⟨c,hc',rfl,HO,hE⟩:=hrel
  generalize wr=Y at *
  by_cases hlt:c<np
  ·have hci:(c:Int)<(np:Int):=by omega
   have hw1:=Lib.hid (hw0.out _ hE)
   have Hset:=Lib.hid (c24_set L fs np c emQ (qv (qR 0)))
   have Hat:=Lib.hid (c24_at (L:=L) (fs:=fs) (o:=emQ) hlt)
   have Hlt:=Lib.hid hlt
   clear hlt
   go_wp2_with fail
   refine hw1.out.mono ?_
   rintro e Y1 ⟨rfl,hE1⟩
   have e1:=hE.trans hE1
   obtain ⟨z0,z1,f0,f1,HO1,hE2⟩:=FrV.stepE e1 Hgw.out (HO.out.ext hE1) Hat.out (I 0) (I 1)
   rw [show ((I 0,I 1):Value×Value)=qv (qR 0) from rfl,Hset.out] at HO1
   unfold emQ at z0 z1
   clear hw1 HO Hat Hset
   go_wp2_with fail
   generalize ((Y1.setCell ⟨g,c*2,none⟩ (I 0)).setCell ⟨g,c*2+1,none⟩ (I 1))=Y2 at *
   clear z0 z1 f0 f1 hE1 e1 hE
   go_loopw [9] (fun iv wr => ∃ i:Nat,i≤m∧iv = .int .i64 i∧Hid (FrV g wr g (c24 L fs np c (qv (qR (sumR (cmbF L fs c) i)))))∧Ext w wr) (fun iv _=>m-(intOf iv).toNat)
   case atStart=>exact ⟨0,by omega,by go_num,Lib.hid (show FrV g Y2 g (c24 L fs np c (qv (qR (sumR (cmbF L fs c) 0)))) from HO1.out),hE2.out⟩
   case round =>
    obtain ⟨i,hi,rfl,HO,eX⟩:=hrel
    generalize wr=X at *
    by_cases hli:i<m
    ·have hii:(i:Int)<(m:Int):=by omega
     have hkL:i<L.length:=by rw [← Hm.out]; exact hli
     have hkv:i<vs.length:=by rw [Hv.out]; exact hkL
     obtain rfl:=HS.out.addr (by omega)
     have k0:=HS.out.cell i _ (List.getElem?_eq_getElem hkv)
     have hsz:=Hr.out i hkL hkv
     have hln:=Hc.out _ (List.getElem_mem hkL)
     have hLk:L.getD i []=L[i]:=by rw [List.getD_eq_getElem?_getD,List.getElem?_eq_getElem hkL]; rfl
     obtain ⟨xa,xb,xo,xc,ex,q1,q2,q3⟩:=hsz
     rw [ex] at k0
     rw [hln] at k0 q1 q2
     have hcn:c<np:=Hlt.out
     obtain rfl:=q2 (by omega)
     have hkf:i<q:=by omega
     have hfk:i<fs.length:=by rw [← Hq.out]; exact hkf
     obtain rfl:=Hfa.out (by omega)
     obtain ⟨f0,f1⟩:=Hfr.out i hfk
     have hfD:fs.getD i 0=fs[i]:=by rw [List.getD_eq_getElem?_getD,List.getElem?_eq_getElem hfk]; rfl
     obtain ⟨p,hp⟩ : ∃ p,p=fs[i]:=⟨_,rfl⟩
     rw [← hp] at f0 f1 hfD
     obtain ⟨s0,s1⟩:=q3 c (by rw [hln]; exact hcn)
     obtain ⟨s,hs⟩ : ∃ s,s=L[i][c]'(by rw [hln]; exact hcn):=⟨_,rfl⟩
     rw [← hs] at s0 s1
     have hFk:cmbF L fs c i=s*p:=by
      unfold cmbF
      rw [hLk,hfD,List.getD_eq_getElem?_getD,List.getElem?_eq_getElem (by rw [hln]; exact hcn),hs]; rfl
     have hsN:=Hnd.out c i
     rw [hFk] at hsN
     have hsm:SmQ s:=Hss.out i c hkL (by rw [hln]; exact hcn) s hs
     have hpm:SmQ p:=Hpp.out i hfk p hp.symm
     obtain ⟨t,ht⟩ : ∃ t,t=sumR (cmbF L fs c) i:=⟨_,rfl⟩
     have htm:=Hsum.out c i (by omega)
     rw [← ht] at htm HO
     have Hat:=Lib.hid (c24_at (L:=L) (fs:=fs) (o:=qv (qR t)) hcn)
     obtain ⟨t0',t1'⟩:=HO.out.cells Hat.out
     have t0:X.cell? ⟨g,c*2,none⟩=some (I t.num):=t0'
     have t1:X.cell? ⟨g,c*2+1,none⟩=some (I t.den):=t1'
     clear t0' t1'
     have hst:(c24 L fs np c (qv (qR t))).set c (qv (qR (t+s*p)))=c24 L fs np c (qv (qR (sumR (cmbF L fs c) (i+1)))):=by
      rw [c24_set,sumR,hFk,ht]
     have Hst:=Lib.hid hst
     have hmu:=Lib.hid (fun W (hW:Ext X W)=>ratMul_any (a:=s) (b:=p) hsm hpm (HL.out.ext (eX.trans hW)))
     have had:=Lib.hid (fun W (hW:Ext X W)=>ratAdd_any (a:=t) (b:=s*p) htm (hsN.smQ (by omega)) (HL.out.ext (eX.trans hW)))
     replace k0:=eX.cell k0
     replace s0:=eX.cell s0
     replace s1:=eX.cell s1
     have p0:=eX.cell f0
     have p1:=eX.cell f1
     have hkfI:(i:Int)<(q:Int):=by omega
     have hcnI:(c:Int)<(np:Int):=by omega
     clear hst htm hsN hsm hpm hFk hs ht hli hp hfD hLk hln q2 q3 ex f0 f1 hkv hcn
     go_wp2_with fail
     have d0:Ext X X.drew:=(Ext.refl X).drew
     refine wp_region_held_tail (S:=fun W=>Ext X W) 19 (by kernel_rfl) (by simp) ?_
     intro inv
     generalize X.drew=X1 at *
     refine wpAnyLH_take (i:=0) (v:=slv g np np) rfl (by kernel_rfl) (fun _ _ _ h=>h) (.inl ⟨by rfl,fun W hW=>by go_simp⟩) d0 inv ?_
     intro inv
     go_simp
     refine wpAnyLH_take (i:=1) (v := .int .i64 c) rfl (by kernel_rfl) (fun _ _ _ h=>h) (.inl ⟨by rfl,fun W hW=>by go_simp⟩) d0 inv ?_
     intro inv
     go_simp
     refine wpAnyLH_take (i:=2) (v:=slv g np np) rfl (by kernel_rfl) (fun _ _ _ h=>h) (.inl ⟨by rfl,fun W hW=>by go_simp⟩) d0 inv ?_
     intro inv
     go_simp
     refine wpAnyLH_take (i:=3) (v := .int .i64 c) rfl (by kernel_rfl) (fun _ _ _ h=>h) (.inl ⟨by rfl,fun W hW=>by go_simp⟩) d0 inv ?_
     intro inv
     go_simp
     refine wpAnyLH_take (i:=4) (v := .pointer (some ⟨g,c*2,none⟩)) rfl (by kernel_rfl) (fun _ _ _ h=>h) (.inl ⟨by rfl,fun W hW=>by go_simp⟩) d0 inv ?_
     intro inv
     go_simp
     refine wpAnyLH_take (i:=5) (v:=RV t) rfl (by kernel_rfl) (fun _ _ _ h=>h) (.inl ⟨by rfl,fun W hW=>by have z0:=hW.cell t0; have z1:=hW.cell t1; go_simp⟩) d0 inv ?_
     intro inv
     go_simp
     refine wpAnyLH_take (i:=6) (v := .slice (some ⟨gb,go,none⟩) m cap) rfl (by kernel_rfl) (fun _ _ _ h=>h) (.inl ⟨by rfl,fun W hW=>by go_simp⟩) d0 inv ?_
     intro inv
     go_simp
     refine wpAnyLH_take (i:=7) (v := .int .i64 i) rfl (by kernel_rfl) (fun _ _ _ h=>h) (.inl ⟨by rfl,fun W hW=>by go_simp⟩) d0 inv ?_
     intro inv
     go_simp
     refine wpAnyLH_take (i:=8) (v := .pointer (some ⟨gb,go+i,none⟩)) rfl (by kernel_rfl) (fun _ _ _ h=>h) (.inl ⟨by rfl,fun W hW=>by go_simp⟩) d0 inv ?_
     intro inv
     go_simp
     refine wpAnyLH_take (i:=9) (v := .slice (some ⟨xb,xo,none⟩) np xc) rfl (by kernel_rfl) (fun _ _ _ h=>h) (.inl ⟨by rfl,fun W hW=>by have z0:=hW.cell k0; go_simp⟩) d0 inv ?_
     intro inv
     go_simp
     refine wpAnyLH_take (i:=10) (v := .int .i64 c) rfl (by kernel_rfl) (fun _ _ _ h=>h) (.inl ⟨by rfl,fun W hW=>by go_simp⟩) d0 inv ?_
     intro inv
     go_simp
     refine wpAnyLH_take (i:=11) (v := .pointer (some ⟨xb,xo+c*2,none⟩)) rfl (by kernel_rfl) (fun _ _ _ h=>h) (.inl ⟨by rfl,fun W hW=>by go_simp⟩) d0 inv ?_
     intro inv
     go_simp
     refine wpAnyLH_take (i:=12) (v:=RV s) rfl (by kernel_rfl) (fun _ _ _ h=>h) (.inl ⟨by rfl,fun W hW=>by have z0:=hW.cell s0; have z1:=hW.cell s1; go_simp⟩) d0 inv ?_
     intro inv
     go_simp
     refine wpAnyLH_take (i:=13) (v := .slice (some ⟨fb,fo,none⟩) q fcap) rfl (by kernel_rfl) (fun _ _ _ h=>h) (.inl ⟨by rfl,fun W hW=>by go_simp⟩) d0 inv ?_
     intro inv
     go_simp
     refine wpAnyLH_take (i:=14) (v := .int .i64 i) rfl (by kernel_rfl) (fun _ _ _ h=>h) (.inl ⟨by rfl,fun W hW=>by go_simp⟩) d0 inv ?_
     intro inv
     go_simp
     refine wpAnyLH_take (i:=15) (v := .pointer (some ⟨fb,fo+i*2,none⟩)) rfl (by kernel_rfl) (fun _ _ _ h=>h) (.inl ⟨by rfl,fun W hW=>by go_simp⟩) d0 inv ?_
     intro inv
     go_simp
     refine wpAnyLH_take (i:=16) (v:=RV p) rfl (by kernel_rfl) (fun _ _ _ h=>h) (.inl ⟨by rfl,fun W hW=>by have z0:=hW.cell p0; have z1:=hW.cell p1; go_simp⟩) d0 inv ?_
     intro inv
     go_simp
     refine wpAnyLH_oneI (i:=17) rfl (by kernel_rfl) inv (fun inv K0 hK0 => ?_)
     go_simp
     refine (hmu.out _ d0).mono ?_
     rintro e X2 ⟨rfl,hG1⟩
     have d1:=d0.trans hG1
     refine hK0 _ _ d1 ?_
     clear hK0
     refine wpAnyLH_oneI (i:=18) rfl (by kernel_rfl) inv (fun inv K0 hK0 => ?_)
     go_simp
     refine (had.out _ d1).mono ?_
     rintro e X3 ⟨rfl,hG2⟩
     have d2:=d1.trans hG2
     refine hK0 _ _ d2 ?_
     clear hK0
     refine wpAnyLH_end (by kernel_rfl) ?_
     obtain ⟨z0,z1,f0',f1',HO9,hE9⟩:=FrV.stepE (eX.trans d2) Hgw.out (HO.out.ext d2) Hat.out (I (t+s*p).num) (I (t+s*p).den)
     rw [show ((I (t+s*p).num,I (t+s*p).den):Value×Value)=qv (qR (t+s*p)) from rfl,Hst.out] at HO9
     unfold qv qR at z0 z1
     clear hmu had inv d0 d1 hG1 hG2 t0 t1 s0 s1 p0 p1 HO k0
     go_wp2_with fail
     go_roundw
     case rel=>exact ⟨i+1,by omega,by go_num,HO9,hE9.out⟩
     case measure=>simp [intOf] <;> omega
    ·obtain rfl:i=m:=by omega
     have hii : ¬ (i:Int)<(i:Int):=by omega
     have HOn:=Lib.hid (show FrV g X g (c24 L fs np (c+1) emQ) by rw [← c24_next, ← Hm.out]; exact HO.out)
     have hcn:c<np:=Hlt.out
     clear HO
     go_wp2_with fail
     go_roundw
     case rel=>exact ⟨c+1,by omega,by go_num,HOn,eX⟩
     case measure=>simp [intOf] <;> omega
  ·obtain rfl:c=np:=by omega
   have hci : ¬ (c:Int)<(c:Int):=by omega
   have HOn:=Lib.hid (FrV.own (show FrV g Y g ((cmbQ L fs c).map fun r=>qv (qR r)) by rw [← c24_end]; exact HO.out))
   clear HO
   go_wp2_with fail
   go_ret
   exact ⟨⟨g,rfl,by rw [← Hg.out]; exact HOn.out⟩,hE⟩
set_option maxHeartbeats 2000000 in
theorem factors24_any {w:World} {v:Value} {x:List Int} (hx:RowR w v x) (hl:x.length≤1000000) (h64 : ∀ z∈x,I64 z) (hL:Laid w) :
  Calls Tryz.prog 42 #[v] w fun e w'=>(∃ u,e = .returned u∧SzV w.heap.size w' u (nbL x))∧Ext w w':=by
 obtain ⟨sa,gb,go,cap,rfl,hc,hS⟩:=hx
 have HS:=Lib.hid hS
 have H64:=Lib.hid h64
 have HL:=Lib.hid hL
 obtain ⟨n,hn⟩ : ∃ n,n=x.length:=⟨_,rfl⟩
 rw [← hn] at hc hl ⊢
 have Hn:=Lib.hid hn
 clear hS h64 hL hn
 go_enter Tryz.func42,Tryz.ntmps42
 go_wp2_with fail
 go_loopw [3,4] (fun u iv wr => ∃ i:Nat,i≤n∧iv = .int .i64 i∧Hid (SzV w.heap.size wr u (nbL (x.take i)))∧Ext w wr) (fun _ iv _=>n-(intOf iv).toNat)
 case atStart=>exact ⟨0,by omega,by go_num,Lib.hid (SzV.nil _ _),Ext.refl _⟩
 case round =>
  obtain ⟨i,hi,rfl,HV,hE⟩:=hrel
  generalize wr=Y at *
  have hYs:=hE.size
  by_cases hlt:i<n
  ·have hii:(i:Int)<(n:Int):=by omega
   have hix:i<x.length:=by rw [← Hn.out]; exact hlt
   obtain rfl:=HS.out.addr (by simp; omega)
   have k0:=HS.out.cell i (.int .i64 x[i]) (by simp [is,List.getElem?_eq_getElem hix])
   have y0:=hE.cell k0
   have h6:=H64.out _ (List.getElem_mem hix)
   have hof:=Lib.hid (fun W (hW:Ext Y W)=>whole24_any (n:=x[i]) h6 (HL.out.ext (hE.trans hW)))
   have Hst:=Lib.hid (nbL_snoc hix)
   have hlen:(nbL (x.take i)).length=i:=by rw [nbL_length,List.length_take]; omega
   have Hlen:=Lib.hid hlen
   have Hmin:=Lib.hid (show min i x.length=i by omega)
   clear k0 hlen h6
   obtain ⟨r,hr⟩ : ∃ r:Rat,r=(x[i]:Rat):=⟨_,rfl⟩
   rw [← hr] at hof Hst
   generalize x[i]=z at *
   clear hr hix
   go_wp2_with fail
   refine (hof.out _ (Ext.refl _)).mono ?_
   rintro e Z ⟨rfl,hE2⟩
   have eA:=hE2.alloc (.cells #[I r.num,I r.den] 81)
   have hO:=two_alloc Z 81 (I r.num) (I r.den)
   have z0:=hO.cell (j:=0) (by simp)
   have z1:=hO.cell (j:=1) (by simp)
   simp only [List.getElem_cons_zero,List.getElem_cons_succ] at z0 z1
   have HVZ:=Lib.hid (HV.out.ext eA)
   have hZs:=hE2.size
   clear hO hof y0
   go_wp2_with (at_builtin; refine app_rat rfl _ _ 59 Tryz.underlying59 rfl (B:=w.heap.size) rfl HVZ.out (b:=Z.heap.size) (r:=r) rfl z0 z1 (by rw [Hlen.out]; omega) (by simp; omega) ?_; intro g9 cap9 w9 hO9 hB9 _; rw [Hst.out,Hlen.out] at hO9; have HO9:=Lib.hid hO9; have e9:=Below.trans (hE.trans eA) hB9; clear hO9 hB9)
   go_wp2_with fail
   go_roundw
   case rel=>exact ⟨i+1,by omega,by go_num,by rw [Hmin.out]; exact HO9,e9⟩
   case measure=>simp [intOf] <;> omega
  ·obtain rfl:i=n:=by omega
   have Hres:=Lib.hid (show SzV w.heap.size Y _ (nbL x) by have:=HV.out; rw [Hn.out,List.take_length] at this; exact this)
   have hii : ¬ (i:Int)<(i:Int):=by omega
   go_wp2_with fail
   go_ret
   exact ⟨⟨_,rfl,Hres.out⟩,hE⟩
theorem just24_any {w:World} {v:Value} {x:List Int} (hx:RowR w v x) (hl:x.length≤1000000) (h64 : ∀ z∈x,I64 z) (hL:Laid w) :
  Calls Tryz.prog 50 #[v] w fun e w'=>(∃ u,e = .returned u∧SzV w.heap.size w' u (nbL x))∧Ext w w':=by
 have hf:=Lib.hid (factors24_any hx hl h64 hL)
 clear hx hl h64 hL
 go_enter Tryz.func50,Tryz.ntmps50
 go_wp2_with fail
 refine hf.out.mono ?_
 rintro e W ⟨⟨u,rfl,hu⟩,hE⟩
 have Hu:=Lib.hid hu
 clear hu hf
 go_wp2_with fail
 go_ret
 exact ⟨⟨_,rfl,Hu.out⟩,hE⟩
end Go.Proofs.YtjnpakablgommaaGreatDoor
