/- Part 39 of the proof of the claim: contracts of the functions that it reaches, and plain laws; no condition. -/
import Derived.Test.YtdmaofimeknkbaaGreatDoorQ27
import Derived.Test.YtdmaofimeknkbaaGreatDoorQ38
import Derived.Test.YtdmaofimeknkbaaGreatDoorQ35
import Derived.BigQuiet
set_option maxRecDepth 100000
set_option maxHeartbeats 20000000
namespace Go.Proofs.YtdmaofimeknkbaaGreatDoor
section
open Go.RowKit Go.Sort
open Lib (hid)
def Kjt (w:World) (n:Nat) (M:Mx) (e:Ending) (w':World):Prop :=
 ((okV n M=true /\ ∃v,e = .returned (.tuple #[v,.bool true])/\KH w.heap.size w' v (ZZ n M))\/(okV n M=false/\e = .returned (.tuple #[.slice none 0 0,.bool false])))/\Ext w w'
def ngL (v:List Int) (i:Nat):List Int:=(List.range v.length).map λt=>if t<i then 0-v.getD t 0 else v.getD t 0
@[simp] theorem Kp9 (v:List Int) (i:Nat):(ngL v i).length=v.length:=by simp [ngL]
theorem Kbp {v:List Int} {i t:Nat} (h:t<(ngL v i).length):(ngL v i)[t]=if t<i then 0-v.getD t 0 else v.getD t 0:=by simp [ngL]
theorem Khy (v:List Int):ngL v 0=v:=by
 refine List.ext_getElem (by simp) λt h1 h2 => ?_
 rw [Kbp,if_neg (by omega),Ka h2]
theorem Khx {v:List Int} {i:Nat} (_h:i<v.length):(ngL v i).set i (0-v.getD i 0)=ngL v (i+1):=by
 refine List.ext_getElem (by simp) λt h1 h2 => ?_
 rw [List.getElem_set,Kbp,Kbp]
 by_cases e:i=t
 ·subst e;rw [if_pos rfl,if_pos (by omega)]
 ·rw [if_neg e];have:(t<i↔t<i+1):=by omega
  simp only [this]
theorem KjX (v:List Int):ngL v v.length=v.map (λz=>0-z):=by
 refine List.ext_getElem (by simp) λt h1 h2 => ?_
 have ht:t<v.length:=by simpa using h1
 rw [Kbp,if_pos ht,List.getElem_map,Ka ht]
theorem Km8 {v:List Int} {i:Nat} (h:i<v.length):(ngL v i)[i]'(by simpa using h)=v.getD i 0:=by
 rw [Kbp,if_neg (by omega)]
theorem KiT {B:Nat} {w:World} {g n c:Nat} {l:List Int} (h:KH B w (slv g n c) l) (hn:n=l.length):Kd 3 B w g c (is l):=by
 subst hn;unfold Kd;rw [Kq];exact h
theorem Kq4 {n:Nat} {M:Mx} (hn:n=2\/n=3) (hb : ∀r∈M,∀z∈r,z.natAbs<=8) (i:Nat):((mnL n M).getD i 0).natAbs<=128:=by
 have he : ∀i j,(eM M i j).natAbs<=8:=λi j=>YL hb i j
 have hp : ∀i j k l,(eM M i j*eM M k l).natAbs<=64:=λi j k l=>Kld (he i j) (he k l)
 rcases hn with rfl | rfl
 ·rw [Kb2];have a:=he 0 1;have b:=he 0 0;split
  ·omega
  ·split
   ·omega
   ·simp
 ·obtain ⟨m0,m1,m2⟩:=Kc0 M
  rcases (show i=0\/i=1\/i=2\/3<=i by omega) with rfl | rfl | rfl | h3
  ·rw [m0];have:=hp 0 1 1 2;have:=hp 0 2 1 1;omega
  ·rw [m1];have:=hp 0 2 1 0;have:=hp 0 0 1 2;omega
  ·rw [m2];have:=hp 0 0 1 1;have:=hp 0 1 1 0;omega
  ·rw [List.getD_eq_getElem?_getD,List.getElem?_eq_none (by unfold mnL;rw [if_neg (by omega)];exact h3)];simp
theorem Knr (w:World) {B:Nat} {a b:Int} (h:B<=w.heap.size):Kd 3 B (w.alloc (.cells #[.int .i64 a,.int .i64 b] 3)) w.heap.size 2 (is [a,b]) :=
 (Kd.of (Nat.le_refl _) Array.getElem?_push_size (by simp) (by unfold maxLen;omega) rfl rfl:Kd 3 w.heap.size _ w.heap.size 2 (is [a,b])).mono h
theorem Kqe {n:Nat} {M:Mx} (h : ¬(gV (mnL n M) n=1/\(mnL n M).getD 0 0≠0)):okV n M=false:=decide_eq_false h
theorem Kcr {w:World} {n cp m cu:Nat} {sp su:Option Addr} {vo:Value} {M:Mx} (hn:n=2\/n=3) (hM:KJ w (.slice su m cu) M) (hl:M.length+1=n) (hR:Ku n M) (hb : ∀r∈M,∀z∈r,z.natAbs<=8) :
  Calls Tryz.prog 6 #[.agg #[.slice sp n cp,.slice su m cu,vo]] w (Kjt w n M):=by
 have hml:m=M.length:=by
  obtain ⟨_,_,_,_,_,e,_⟩:=hM;injection e
 obtain ⟨gb,go,hsu,hrow⟩:=hM.elZ hml hR (by omega);have hm0:0<m:=by omega
 obtain rfl:=hsu hm0;have hmL:=Ym M hn;have HmB:=hid (λi=>Kq4 (M:=M) hn hb i);have HX:=hid (KcV w 34 (.slice sp n cp) (.slice (some ⟨gb,go,none⟩) m cu) vo);have hE0:Ext w (w.alloc (.cells #[.slice sp n cp,.slice (some ⟨gb,go,none⟩) m cu,vo] 34)):=(Ext.refl w).alloc _;obtain ⟨b1,hb1⟩ : ∃b1,b1=w.heap.size:=⟨_,rfl⟩
 rw [show Kd 34 w.heap.size (w.alloc (.cells #[.slice sp n cp,.slice (some ⟨gb,go,none⟩) m cu,vo] 34)) w.heap.size 3 [.slice sp n cp,.slice (some ⟨gb,go,none⟩) m cu,vo]=Kd 34 w.heap.size (w.alloc (.cells #[.slice sp n cp,.slice (some ⟨gb,go,none⟩) m cu,vo] 34)) b1 3 [.slice sp n cp,.slice (some ⟨gb,go,none⟩) m cu,vo] by rw [hb1]] at HX;have HbE:=hid (λi j=>YL hb i j);have Hpr:=hid (λi j k l=>Kld (YL hb i j) (YL hb k l));have Hrow:=hid hrow;have HmL:=hid hmL;have Hn:=hid hn;have hMl:m+1=n:=by omega
 clear hM hrow hR hb hmL hml
 go_enter Tryz.func6,Tryz.ntmps6
 go_upto_region 1 with fail;rw [<-hb1];clear hb1;generalize w.alloc (.cells #[.slice sp n cp,.slice (some ⟨gb,go,none⟩) m cu,vo] 34)=W0 at *;obtain ⟨a0,a1,a2⟩:=Xk HX.out;go_upto_if 18 with fail
 go_cut [4] from 6 to 70 (λvv wx => ∃(g c:Nat),vv=slv g n c/\Hid (Kd 3 w.heap.size wx g c (is (mnL n M)))/\Ext w wx)
 case first =>
  rcases hn with rfl | rfl
  ·obtain rfl:m=1:=by omega
   obtain ⟨g0,o0,c0,r0,k0⟩:=Hrow.out 0 (by omega);have x0:=k0 0 (by omega);have x1:=k0 1 (by omega);rw [Nat.add_zero] at r0 x0;have ba:=HbE.out 0 0;have bb:=HbE.out 0 1;have Hmn:=hid (show mnL 2 M=[0-eM M 0 1,eM M 0 0] from if_pos rfl);generalize eM M 0 0=a at *;generalize eM M 0 1=b at *;have w0:IntKind.i64.wrap (0-b)=0-b:=IntWalk.i64_in _ (by omega);have y0:=hE0.cell x0;have j0:=cell_regrown y0;have y1:=hE0.cell x1;have j1:=cell_regrown y1;have r0':=hE0.cell r0;have q0:=cell_regrown r0';clear k0;go_wp2_with fail
   go_region
   (try go_wp2_with fail)
   go_meet;exact ⟨_,_,rfl,hid (by rw [Hmn.out,show (0:Int)-b = -b by omega];exact (Knr _ hE0.size).ext ((Ext.refl _).drew)),(hE0.alloc _).drew⟩
  ·obtain rfl:m=2:=by omega
   obtain ⟨g0,o0,c0,r0,k0⟩:=Hrow.out 0 (by omega);obtain ⟨g1,o1,c1,r1,k1⟩:=Hrow.out 1 (by omega);rw [Nat.add_zero] at r0;have r0:=hE0.cell r0;have r1:=hE0.cell r1;have HK0:=hid (λi (hi:i<3)=>hE0.cell (k0 i hi));have HK1:=hid (λi (hi:i<3)=>hE0.cell (k1 i hi))
   have step : ∀(j k:Nat),j<3->k<3 -> ∃a b c d:Int,(W0.cell? ⟨g0,o0+j,none⟩=some (.int .i64 a)/\W0.cell? ⟨g1,o1+k,none⟩=some (.int .i64 b)/\W0.cell? ⟨g0,o0+k,none⟩=some (.int .i64 c)/\W0.cell? ⟨g1,o1+j,none⟩=some (.int .i64 d))/\a*b-c*d=eM M 0 j*eM M 1 k-eM M 0 k*eM M 1 j/\(a*b).natAbs<=64/\(c*d).natAbs<=64:=λj k hj hk =>
    ⟨eM M 0 j,eM M 1 k,eM M 0 k,eM M 1 j,⟨HK0.out j hj,HK1.out k hk,HK0.out k hk,HK1.out j hj⟩,rfl,Hpr.out 0 j 1 k,Hpr.out 0 k 1 j⟩
   have Z9:=hid step;have Hm3:=hid (Kc0 M);have Hl3:=hid (Ym M (n:=3) (.inr rfl));clear step k0 k1;go_wp2_with fail
   go_loopw [4,6] (λvv iv wr => ∃i:Nat,i<=3/\iv = .int .i64 i/\Hid (KH W0.heap.size wr vv ((mnL 3 M).take i))/\Ext W0 wr) (λ_ iv _=>3-(intOf iv).toNat)
   case atStart=>exact ⟨0,by omega,by go_num,hid (KH.nil _ _),Ext.refl _⟩
   case round =>
    obtain ⟨i,hi,rfl,hV,hE⟩:=hrel;generalize wr=X at *;have hi4:i=0\/i=1\/i=2\/i=3:=by omega
    rcases hi4 with rfl | rfl | rfl | rfl
    ·obtain ⟨a,b,c,d,⟨x0,x1,x2,x3⟩,ht,m1,m2⟩:=Z9.out 1 2 (by omega) (by omega)
     have Hsn:=hid (show (mnL 3 M).take 0++[a*b-c*d]=(mnL 3 M).take 1 by
      rw [ht,List.take_succ_eq_append_getElem (show 0<(mnL 3 M).length by rw [Hl3.out];omega)];have:=Hm3.out.1;rw [Ka (show 0<(mnL 3 M).length by rw [Hl3.out];omega)] at this
      rw [this])
     have Hil:=hid (show ((mnL 3 M).take 0).length=0 by rw [List.length_take,Hl3.out];omega);rw [show (((0:Nat)):Int)=0 from rfl];have w1:IntKind.i64.wrap (a*b)=a*b:=IntWalk.i64_in _ (by omega);have w2:IntKind.i64.wrap (c*d)=c*d:=IntWalk.i64_in _ (by omega);have w3:IntKind.i64.wrap (a*b-c*d)=a*b-c*d:=IntWalk.i64_in _ (by omega);have y0:=hE.cell x0;have y1:=hE.cell x1;have y2:=hE.cell x2;have y3:=hE.cell x3;have qr0:=hE.cell r0;have qr1:=hE.cell r1;obtain ⟨ga,gc,hgv⟩:=hV.out.shapeQ;rw [Hil.out] at hgv;subst hgv;clear ht;go_wp2_with fail;have d0:Ext X X.drew:=(Ext.refl X).drew;refine Ke (S:=λW=>Ext X W) 29 (by kernel_rfl) (by simp) ?_;intro inv;generalize X.drew=w5 at *;refine tkS (i:=0) (v := .slice ga 0 gc) rfl d0 inv ?_;intro inv;go_simp;refine tkS (i:=1) (v := .slice (some ⟨gb,go,none⟩) 2 cu) rfl d0 inv ?_;intro inv;go_simp;refine tkS (i:=2) (v := .pointer (some ⟨gb,go,none⟩)) rfl d0 inv ?_;intro inv;go_simp;refine tkA (i:=3) (v := .slice (some ⟨g0,o0,none⟩) 3 c0) rfl (.inl ⟨by rfl,λW hW=>by have z0:=hW.cell qr0;go_simp⟩) d0 inv ?_;intro inv;go_simp;refine tkS (i:=4) (v := .int .i64 1) rfl d0 inv ?_;intro inv;go_simp;refine tkS (i:=5) (v := .pointer (some ⟨g0,o0+1,none⟩)) rfl d0 inv ?_;intro inv;go_simp;refine tkA (i:=6) (v := .int .i64 a) rfl (.inl ⟨by rfl,λW hW=>by have z0:=hW.cell y0;go_simp⟩) d0 inv ?_;intro inv;go_simp;refine tkS (i:=7) (v := .slice (some ⟨gb,go,none⟩) 2 cu) rfl d0 inv ?_;intro inv;go_simp
     refine tkS (i:=8) (v := .pointer (some ⟨gb,go+1,none⟩)) rfl d0 inv ?_;intro inv;go_simp;refine tkA (i:=9) (v := .slice (some ⟨g1,o1,none⟩) 3 c1) rfl (.inl ⟨by rfl,λW hW=>by have z0:=hW.cell qr1;go_simp⟩) d0 inv ?_;intro inv;go_simp;refine tkS (i:=10) (v := .int .i64 2) rfl d0 inv ?_;intro inv;go_simp;refine tkS (i:=11) (v := .pointer (some ⟨g1,o1+2,none⟩)) rfl d0 inv ?_;intro inv;go_simp;refine tkA (i:=12) (v := .int .i64 b) rfl (.inl ⟨by rfl,λW hW=>by have z0:=hW.cell y1;go_simp⟩) d0 inv ?_;intro inv;go_simp;refine tkS (i:=13) (v := .int .i64 (a*b)) rfl d0 inv ?_;intro inv;go_simp;refine tkS (i:=14) (v := .slice (some ⟨gb,go,none⟩) 2 cu) rfl d0 inv ?_;intro inv;go_simp;refine tkS (i:=15) (v := .pointer (some ⟨gb,go,none⟩)) rfl d0 inv ?_;intro inv;go_simp;refine tkA (i:=16) (v := .slice (some ⟨g0,o0,none⟩) 3 c0) rfl (.inl ⟨by rfl,λW hW=>by have z0:=hW.cell qr0;go_simp⟩) d0 inv ?_;intro inv;go_simp;refine tkS (i:=17) (v := .int .i64 2) rfl d0 inv ?_;intro inv;go_simp;refine tkS (i:=18) (v := .pointer (some ⟨g0,o0+2,none⟩)) rfl d0 inv ?_;intro inv;go_simp;refine tkA (i:=19) (v := .int .i64 c) rfl (.inl ⟨by rfl,λW hW=>by have z0:=hW.cell y2;go_simp⟩) d0 inv ?_;intro inv;go_simp;refine tkS (i:=20) (v := .slice (some ⟨gb,go,none⟩) 2 cu) rfl d0 inv ?_;intro inv;go_simp;refine tkS (i:=21) (v := .pointer (some ⟨gb,go+1,none⟩)) rfl d0 inv ?_;intro inv;go_simp
     refine tkA (i:=22) (v := .slice (some ⟨g1,o1,none⟩) 3 c1) rfl (.inl ⟨by rfl,λW hW=>by have z0:=hW.cell qr1;go_simp⟩) d0 inv ?_;intro inv;go_simp;refine tkS (i:=23) (v := .int .i64 1) rfl d0 inv ?_;intro inv;go_simp;refine tkS (i:=24) (v := .pointer (some ⟨g1,o1+1,none⟩)) rfl d0 inv ?_;intro inv;go_simp;refine tkA (i:=25) (v := .int .i64 d) rfl (.inl ⟨by rfl,λW hW=>by have z0:=hW.cell y3;go_simp⟩) d0 inv ?_;intro inv;go_simp;refine tkS (i:=26) (v := .int .i64 (c*d)) rfl d0 inv ?_;intro inv;go_simp;refine tkS (i:=27) (v := .int .i64 (a*b-c*d)) rfl d0 inv ?_;intro inv;go_simp;have eA:=d0.alloc (.cells #[.int .i64 (a*b-c*d)] 3);refine Kf (i:=28) rfl (by kernel_rfl) inv (λinv K1 hK1 => ?_);go_simp;refine hK1 _ _ eA ?_;clear hK1;refine Ki (by kernel_rfl) ?_;have hV5:=hid (hV.out.ext d0);have hEX:=hE.trans d0;have hXs:=hEX.size;go_wp2_with (at_builtin;refine Y9 rfl _ _ 38 Tryz.underlying38 rfl rfl (hV5.out.ext ((Ext.refl _).alloc _)) rfl (b:=w5.heap.size) (z:=a*b-c*d) (by go_simp) (by rw [Hil.out];omega) (by simp;omega) ?_;intro gg cap2 w8 hO8 hB8 hG8;rw [Hil.out] at hO8 ⊢;rw [Hsn.out] at hO8)
     have hE8:Ext W0 w8:=Below.trans (hEX.alloc _) hB8;have HO8:=hid hO8;clear hG8 hB8 hO8;go_wp2_with fail;go_roundw
     case rel=>exact ⟨1,by omega,by go_num,HO8,hE8⟩
     case measure=>simp [intOf]<;>omega
    ·obtain ⟨a,b,c,d,⟨x0,x1,x2,x3⟩,ht,m1,m2⟩:=Z9.out 2 0 (by omega) (by omega)
     have Hsn:=hid (show (mnL 3 M).take 1++[a*b-c*d]=(mnL 3 M).take 2 by
      rw [ht,List.take_succ_eq_append_getElem (show 1<(mnL 3 M).length by rw [Hl3.out];omega)];have:=Hm3.out.2.1;rw [Ka (show 1<(mnL 3 M).length by rw [Hl3.out];omega)] at this
      rw [this])
     have Hil:=hid (show ((mnL 3 M).take 1).length=1 by rw [List.length_take,Hl3.out];omega);rw [Nat.add_zero] at x1 x2;rw [show (((1:Nat)):Int)=1 from rfl];have w1:IntKind.i64.wrap (a*b)=a*b:=IntWalk.i64_in _ (by omega);have w2:IntKind.i64.wrap (c*d)=c*d:=IntWalk.i64_in _ (by omega);have w3:IntKind.i64.wrap (a*b-c*d)=a*b-c*d:=IntWalk.i64_in _ (by omega);have y0:=hE.cell x0;have y1:=hE.cell x1;have y2:=hE.cell x2;have y3:=hE.cell x3;have qr0:=hE.cell r0;have qr1:=hE.cell r1;obtain ⟨ga,gc,hgv⟩:=hV.out.shapeQ;rw [Hil.out] at hgv;subst hgv;clear ht;go_wp2_with fail;have d0:Ext X X.drew:=(Ext.refl X).drew;refine Ke (S:=λW=>Ext X W) 29 (by kernel_rfl) (by simp) ?_;intro inv;generalize X.drew=w5 at *;refine tkS (i:=0) (v := .slice ga 1 gc) rfl d0 inv ?_;intro inv;go_simp;refine tkS (i:=1) (v := .slice (some ⟨gb,go,none⟩) 2 cu) rfl d0 inv ?_;intro inv;go_simp;refine tkS (i:=2) (v := .pointer (some ⟨gb,go,none⟩)) rfl d0 inv ?_;intro inv;go_simp;refine tkA (i:=3) (v := .slice (some ⟨g0,o0,none⟩) 3 c0) rfl (.inl ⟨by rfl,λW hW=>by have z0:=hW.cell qr0;go_simp⟩) d0 inv ?_;intro inv;go_simp;refine tkS (i:=4) (v := .int .i64 2) rfl d0 inv ?_;intro inv;go_simp;refine tkS (i:=5) (v := .pointer (some ⟨g0,o0+2,none⟩)) rfl d0 inv ?_;intro inv;go_simp;refine tkA (i:=6) (v := .int .i64 a) rfl (.inl ⟨by rfl,λW hW=>by have z0:=hW.cell y0;go_simp⟩) d0 inv ?_;intro inv;go_simp;refine tkS (i:=7) (v := .slice (some ⟨gb,go,none⟩) 2 cu) rfl d0 inv ?_;intro inv;go_simp
     refine tkS (i:=8) (v := .pointer (some ⟨gb,go+1,none⟩)) rfl d0 inv ?_;intro inv;go_simp;refine tkA (i:=9) (v := .slice (some ⟨g1,o1,none⟩) 3 c1) rfl (.inl ⟨by rfl,λW hW=>by have z0:=hW.cell qr1;go_simp⟩) d0 inv ?_;intro inv;go_simp;refine tkS (i:=10) (v := .int .i64 0) rfl d0 inv ?_;intro inv;go_simp;refine tkS (i:=11) (v := .pointer (some ⟨g1,o1,none⟩)) rfl d0 inv ?_;intro inv;go_simp;refine tkA (i:=12) (v := .int .i64 b) rfl (.inl ⟨by rfl,λW hW=>by have z0:=hW.cell y1;go_simp⟩) d0 inv ?_;intro inv;go_simp;refine tkS (i:=13) (v := .int .i64 (a*b)) rfl d0 inv ?_;intro inv;go_simp;refine tkS (i:=14) (v := .slice (some ⟨gb,go,none⟩) 2 cu) rfl d0 inv ?_;intro inv;go_simp;refine tkS (i:=15) (v := .pointer (some ⟨gb,go,none⟩)) rfl d0 inv ?_;intro inv;go_simp;refine tkA (i:=16) (v := .slice (some ⟨g0,o0,none⟩) 3 c0) rfl (.inl ⟨by rfl,λW hW=>by have z0:=hW.cell qr0;go_simp⟩) d0 inv ?_;intro inv;go_simp;refine tkS (i:=17) (v := .int .i64 0) rfl d0 inv ?_;intro inv;go_simp;refine tkS (i:=18) (v := .pointer (some ⟨g0,o0,none⟩)) rfl d0 inv ?_;intro inv;go_simp;refine tkA (i:=19) (v := .int .i64 c) rfl (.inl ⟨by rfl,λW hW=>by have z0:=hW.cell y2;go_simp⟩) d0 inv ?_;intro inv;go_simp;refine tkS (i:=20) (v := .slice (some ⟨gb,go,none⟩) 2 cu) rfl d0 inv ?_;intro inv;go_simp;refine tkS (i:=21) (v := .pointer (some ⟨gb,go+1,none⟩)) rfl d0 inv ?_;intro inv;go_simp
     refine tkA (i:=22) (v := .slice (some ⟨g1,o1,none⟩) 3 c1) rfl (.inl ⟨by rfl,λW hW=>by have z0:=hW.cell qr1;go_simp⟩) d0 inv ?_;intro inv;go_simp;refine tkS (i:=23) (v := .int .i64 2) rfl d0 inv ?_;intro inv;go_simp;refine tkS (i:=24) (v := .pointer (some ⟨g1,o1+2,none⟩)) rfl d0 inv ?_;intro inv;go_simp;refine tkA (i:=25) (v := .int .i64 d) rfl (.inl ⟨by rfl,λW hW=>by have z0:=hW.cell y3;go_simp⟩) d0 inv ?_;intro inv;go_simp;refine tkS (i:=26) (v := .int .i64 (c*d)) rfl d0 inv ?_;intro inv;go_simp;refine tkS (i:=27) (v := .int .i64 (a*b-c*d)) rfl d0 inv ?_;intro inv;go_simp;have eA:=d0.alloc (.cells #[.int .i64 (a*b-c*d)] 3);refine Kf (i:=28) rfl (by kernel_rfl) inv (λinv K1 hK1 => ?_);go_simp;refine hK1 _ _ eA ?_;clear hK1;refine Ki (by kernel_rfl) ?_;have hV5:=hid (hV.out.ext d0);have hEX:=hE.trans d0;have hXs:=hEX.size;go_wp2_with (at_builtin;refine Y9 rfl _ _ 38 Tryz.underlying38 rfl rfl (hV5.out.ext ((Ext.refl _).alloc _)) rfl (b:=w5.heap.size) (z:=a*b-c*d) (by go_simp) (by rw [Hil.out];omega) (by simp;omega) ?_;intro gg cap2 w8 hO8 hB8 hG8;rw [Hil.out] at hO8 ⊢;rw [Hsn.out] at hO8)
     have hE8:Ext W0 w8:=Below.trans (hEX.alloc _) hB8;have HO8:=hid hO8;clear hG8 hB8 hO8;go_wp2_with fail;go_roundw
     case rel=>exact ⟨2,by omega,by go_num,HO8,hE8⟩
     case measure=>simp [intOf]<;>omega
    ·obtain ⟨a,b,c,d,⟨x0,x1,x2,x3⟩,ht,m1,m2⟩:=Z9.out 0 1 (by omega) (by omega)
     have Hsn:=hid (show (mnL 3 M).take 2++[a*b-c*d]=(mnL 3 M).take 3 by
      rw [ht,List.take_succ_eq_append_getElem (show 2<(mnL 3 M).length by rw [Hl3.out];omega)];have:=Hm3.out.2.2;rw [Ka (show 2<(mnL 3 M).length by rw [Hl3.out];omega)] at this
      rw [this])
     have Hil:=hid (show ((mnL 3 M).take 2).length=2 by rw [List.length_take,Hl3.out];omega);rw [Nat.add_zero] at x0 x3;rw [show (((2:Nat)):Int)=2 from rfl];have w1:IntKind.i64.wrap (a*b)=a*b:=IntWalk.i64_in _ (by omega);have w2:IntKind.i64.wrap (c*d)=c*d:=IntWalk.i64_in _ (by omega);have w3:IntKind.i64.wrap (a*b-c*d)=a*b-c*d:=IntWalk.i64_in _ (by omega);have y0:=hE.cell x0;have y1:=hE.cell x1;have y2:=hE.cell x2;have y3:=hE.cell x3;have qr0:=hE.cell r0;have qr1:=hE.cell r1;obtain ⟨ga,gc,hgv⟩:=hV.out.shapeQ;rw [Hil.out] at hgv;subst hgv;clear ht;go_wp2_with fail;have d0:Ext X X.drew:=(Ext.refl X).drew;refine Ke (S:=λW=>Ext X W) 29 (by kernel_rfl) (by simp) ?_;intro inv;generalize X.drew=w5 at *;refine tkS (i:=0) (v := .slice ga 2 gc) rfl d0 inv ?_;intro inv;go_simp;refine tkS (i:=1) (v := .slice (some ⟨gb,go,none⟩) 2 cu) rfl d0 inv ?_;intro inv;go_simp;refine tkS (i:=2) (v := .pointer (some ⟨gb,go,none⟩)) rfl d0 inv ?_;intro inv;go_simp;refine tkA (i:=3) (v := .slice (some ⟨g0,o0,none⟩) 3 c0) rfl (.inl ⟨by rfl,λW hW=>by have z0:=hW.cell qr0;go_simp⟩) d0 inv ?_;intro inv;go_simp;refine tkS (i:=4) (v := .int .i64 0) rfl d0 inv ?_;intro inv;go_simp;refine tkS (i:=5) (v := .pointer (some ⟨g0,o0,none⟩)) rfl d0 inv ?_;intro inv;go_simp;refine tkA (i:=6) (v := .int .i64 a) rfl (.inl ⟨by rfl,λW hW=>by have z0:=hW.cell y0;go_simp⟩) d0 inv ?_;intro inv;go_simp;refine tkS (i:=7) (v := .slice (some ⟨gb,go,none⟩) 2 cu) rfl d0 inv ?_;intro inv;go_simp
     refine tkS (i:=8) (v := .pointer (some ⟨gb,go+1,none⟩)) rfl d0 inv ?_;intro inv;go_simp;refine tkA (i:=9) (v := .slice (some ⟨g1,o1,none⟩) 3 c1) rfl (.inl ⟨by rfl,λW hW=>by have z0:=hW.cell qr1;go_simp⟩) d0 inv ?_;intro inv;go_simp;refine tkS (i:=10) (v := .int .i64 1) rfl d0 inv ?_;intro inv;go_simp;refine tkS (i:=11) (v := .pointer (some ⟨g1,o1+1,none⟩)) rfl d0 inv ?_;intro inv;go_simp;refine tkA (i:=12) (v := .int .i64 b) rfl (.inl ⟨by rfl,λW hW=>by have z0:=hW.cell y1;go_simp⟩) d0 inv ?_;intro inv;go_simp;refine tkS (i:=13) (v := .int .i64 (a*b)) rfl d0 inv ?_;intro inv;go_simp;refine tkS (i:=14) (v := .slice (some ⟨gb,go,none⟩) 2 cu) rfl d0 inv ?_;intro inv;go_simp;refine tkS (i:=15) (v := .pointer (some ⟨gb,go,none⟩)) rfl d0 inv ?_;intro inv;go_simp;refine tkA (i:=16) (v := .slice (some ⟨g0,o0,none⟩) 3 c0) rfl (.inl ⟨by rfl,λW hW=>by have z0:=hW.cell qr0;go_simp⟩) d0 inv ?_;intro inv;go_simp;refine tkS (i:=17) (v := .int .i64 1) rfl d0 inv ?_;intro inv;go_simp;refine tkS (i:=18) (v := .pointer (some ⟨g0,o0+1,none⟩)) rfl d0 inv ?_;intro inv;go_simp;refine tkA (i:=19) (v := .int .i64 c) rfl (.inl ⟨by rfl,λW hW=>by have z0:=hW.cell y2;go_simp⟩) d0 inv ?_;intro inv;go_simp;refine tkS (i:=20) (v := .slice (some ⟨gb,go,none⟩) 2 cu) rfl d0 inv ?_;intro inv;go_simp;refine tkS (i:=21) (v := .pointer (some ⟨gb,go+1,none⟩)) rfl d0 inv ?_;intro inv;go_simp
     refine tkA (i:=22) (v := .slice (some ⟨g1,o1,none⟩) 3 c1) rfl (.inl ⟨by rfl,λW hW=>by have z0:=hW.cell qr1;go_simp⟩) d0 inv ?_;intro inv;go_simp;refine tkS (i:=23) (v := .int .i64 0) rfl d0 inv ?_;intro inv;go_simp;refine tkS (i:=24) (v := .pointer (some ⟨g1,o1,none⟩)) rfl d0 inv ?_;intro inv;go_simp;refine tkA (i:=25) (v := .int .i64 d) rfl (.inl ⟨by rfl,λW hW=>by have z0:=hW.cell y3;go_simp⟩) d0 inv ?_;intro inv;go_simp;refine tkS (i:=26) (v := .int .i64 (c*d)) rfl d0 inv ?_;intro inv;go_simp;refine tkS (i:=27) (v := .int .i64 (a*b-c*d)) rfl d0 inv ?_;intro inv;go_simp;have eA:=d0.alloc (.cells #[.int .i64 (a*b-c*d)] 3);refine Kf (i:=28) rfl (by kernel_rfl) inv (λinv K1 hK1 => ?_);go_simp;refine hK1 _ _ eA ?_;clear hK1;refine Ki (by kernel_rfl) ?_;have hV5:=hid (hV.out.ext d0);have hEX:=hE.trans d0;have hXs:=hEX.size;go_wp2_with (at_builtin;refine Y9 rfl _ _ 38 Tryz.underlying38 rfl rfl (hV5.out.ext ((Ext.refl _).alloc _)) rfl (b:=w5.heap.size) (z:=a*b-c*d) (by go_simp) (by rw [Hil.out];omega) (by simp;omega) ?_;intro gg cap2 w8 hO8 hB8 hG8;rw [Hil.out] at hO8 ⊢;rw [Hsn.out] at hO8)
     have hE8:Ext W0 w8:=Below.trans (hEX.alloc _) hB8;have HO8:=hid hO8;clear hG8 hB8 hO8;go_wp2_with fail;go_roundw
     case rel=>exact ⟨3,by omega,by go_num,HO8,hE8⟩
     case measure=>simp [intOf]<;>omega
    ·have hV2:=hV.out;rw [List.take_of_length_le (by rw [Hl3.out];exact Nat.le_refl _)] at hV2
     obtain ⟨gg,cc,hvv⟩ : ∃gg cc,_=slv gg 3 cc:=by
      rcases hV2.2 with ⟨_,h0⟩ | ⟨g,cap,cur,e,_⟩
      ·rw [Hl3.out] at h0;omega
      ·rw [Hl3.out] at e;exact ⟨g,cap,e⟩
     subst hvv;have hO:=hid ((KiT hV2 Hl3.out.symm).mono hE0.size);have hEr:=hE0.trans hE;go_wp2_with fail;go_meet;exact ⟨_,_,rfl,hO,hEr⟩
 case rest =>
  obtain ⟨g,c,rfl,hO,hE1⟩:=hcut;generalize wc=Y at *;have hn0:0<n:=by have:=Hn.out;omega
  have hn3:n<=3:=by have:=Hn.out;omega
  have Hm0:=hid hE1.size;clear a0 a1 a2 hE0 HX
  have hcl : ∀i,i<n->Y.cell? ⟨g,i,none⟩=some (.int .i64 ((mnL n M).getD i 0)):=λi hi=>by
   have h1:=hO.out.cell (j:=i) (by rw [Kq,HmL.out];exact hi)
   have h2:(is (mnL n M))[i]'(by rw [Kq,HmL.out];exact hi) = .int .i64 ((mnL n M).getD i 0):=by
    rw [Ka (show i<(mnL n M).length by rw [HmL.out];exact hi)];simp [is]
   rw [h1,h2]
  have Hcl:=hid hcl;clear hcl;go_wp2_with fail
  go_loopw [9,10] (λgv iv wr => ∃(i:Nat) (gz:Int),i<=n/\iv = .int .i64 i/\gv = .int .i64 gz/\Hid (gz.natAbs=gV (mnL n M) i)/\(-128<=gz/\gz<=128)/\Ext Y wr) (λ_ iv _=>n-(intOf iv).toNat)
  case atStart=>exact ⟨0,0,by omega,by go_num,rfl,hid rfl,by omega,Ext.refl _⟩
  case round =>
   obtain ⟨i,gz,hi,rfl,rfl,hg,hgb,hE⟩:=hrel;generalize wr=X at *
   by_cases hin:i<n
   ·have hii:(i:Int)<(n:Int):=by omega
    have z0:=hE.cell (Hcl.out i hin);have zb:=HmB.out i;have hst:=hid (show gV (mnL n M) (i+1)=Nat.gcd gz.natAbs ((mnL n M).getD i 0).natAbs by rw [hg.out];rfl);obtain ⟨z,hz⟩ : ∃z,z=(mnL n M).getD i 0:=⟨_,rfl⟩
    rw [<-hz] at z0 zb hst;have hzb : -128<=z/\z<=128:=by omega
    clear hz zb hg;go_wp2_with fail
    go_loopw [9,11] (λgv av wr => ∃(gy ay:Int),gv = .int .i64 gy/\av = .int .i64 ay/\Hid (Nat.gcd gy.natAbs ay.natAbs=gV (mnL n M) (i+1))/\(-128<=gy/\gy<=128)/\(-128<=ay/\ay<=128)/\Ext Y wr) (λ_ av _=>(intOf av).natAbs)
    case atStart=>exact ⟨gz,z,rfl,rfl,hid hst.out.symm,hgb,hzb,hE⟩
    case round =>
     obtain ⟨gy,ay,rfl,rfl,hg,hgy,hay,hE2⟩:=hrel;generalize wr=Z at *
     by_cases ha:ay=0
     ·have hab:(ay != 0)=false:=by simp [ha]
      have hg2:=hg.out;rw [ha] at hg2;have hg3:=hid (show gy.natAbs=gV (mnL n M) (i+1) by simpa using hg2);subst ha;clear hg hg2;go_wp2_with fail;go_roundw
      case rel=>exact ⟨i+1,gy,by omega,by go_num,rfl,hg3,hgy,hE2⟩
      case measure=>simp [intOf]<;>omega
     ·have hab:(ay != 0)=true:=by simp [ha]
      have hab2:(ay==0)=false:=by simp [ha]
      have hlt:=Ko4 (g:=gy) ha;have hgs:=hid (show Nat.gcd ay.natAbs (gy.tmod ay).natAbs=gV (mnL n M) (i+1) by rw [KmP];exact hg.out);obtain ⟨r,hr⟩ : ∃r,gy.tmod ay=r:=⟨_,rfl⟩
      rw [hr] at hlt hgs;have hrb : -128<=r/\r<=128:=by omega
      have hwr:IntKind.i64.wrap r=r:=IntWalk.i64_in _ (by omega);clear hg;go_wp2_with fail
      go_region
      (try go_wp2_with fail)
      go_roundw
      case rel=>exact ⟨ay,r,rfl,rfl,hgs,hay,hrb,hE2.drew⟩
      case measure=>simp [intOf]<;>omega
   ·obtain rfl:n=i:=by omega
    have z0:=hE.cell (Hcl.out 0 hn0);have hO2:=hid (hO.out.ext hE);have hEr:=hE1.trans hE;obtain ⟨z,hz⟩ : ∃z,z=(mnL n M).getD 0 0:=⟨_,rfl⟩
    have zb:=HmB.out 0;rw [<-hz] at z0 zb;have Hz:=hid hz;have hno:=hid (λ(h : ¬(gV (mnL n M) n=1/\z≠0))=>show Kjt w n M (.returned (.tuple #[.slice none 0 0,.bool false])) X from ⟨.inr ⟨Kqe (by rw [<-Hz.out];exact h),rfl⟩,hEr⟩)
    by_cases h1:gz=1\/gz = -1
    ·have hgv:gV (mnL n M) n=1:=by rw [<-hg.out];rcases h1 with rfl | rfl<;>rfl
     by_cases h0:z=0
     ·have hres:=hid (hno.out (λh=>h.2 h0));have h0b:(z==0)=true:=by simp [h0]
      subst h0;clear hno hg hgv hz
      rcases h1 with rfl | rfl
      ·go_wp2_with fail;go_ret2;exact hres.out
      ·go_wp2_with fail;go_ret2;exact hres.out
     ·have h0b:(z==0)=false:=by simp [h0]
      have hok:=hid (show okV n M=true from decide_eq_true ⟨hgv,by rw [<-hz];exact h0⟩);clear hno hg hgv;have hz':=hz;clear hz
      by_cases hng:z<0
      ·have hwz:=hid (show ZZ n M=(mnL n M).map (λz=>0-z) from if_pos (by rw [<-Hz.out];exact hng))
       rcases h1 with rfl | rfl
       ·clear hz';go_wp2_with fail
        go_loopw [12] (λiv wr => ∃i:Nat,i<=n/\iv = .int .i64 i/\Hid (Kd 3 w.heap.size wr g c (is (ngL (mnL n M) i)))/\Ext w wr) (λiv _=>n-(intOf iv).toNat)
        case atStart=>exact ⟨0,by omega,by go_num,hid (by rw [Khy];exact hO2.out),hEr⟩
        case round =>
         clear hO2 z0;obtain ⟨i,hi,rfl,hOi,hEi⟩:=hrel;generalize wr=Z at *
         by_cases hin:i<n
         ·have hii:(i:Int)<(n:Int):=by omega
          have hil:i<(mnL n M).length:=by rw [HmL.out];exact hin
          have y0:=hOi.out.cell (j:=i) (by simp;exact hil);have ye:(is (ngL (mnL n M) i))[i]'(by simp;exact hil) = .int .i64 ((mnL n M).getD i 0):=by rw [<-Km8 hil];simp [is]
          rw [ye] at y0;have yb:=HmB.out i;obtain ⟨y,hy⟩ : ∃y,y=(mnL n M).getD i 0:=⟨_,rfl⟩
          have Hst:=hid (Khx hil);rw [<-hy] at y0 yb Hst;have hf:=hOi.out.frozen i;obtain ⟨hO3,hG3⟩:=hOi.out.set i (.int .i64 (0-y));rw [<-YO,Hst.out] at hO3;have HO3:=hid hO3;have HE3:=hid (Kb hEi hG3 hOi.out.lt.1);have hwy:IntKind.i64.wrap (0-y)=0-y:=IntWalk.i64_in _ (by omega);rw [show (0:Int)-y = -y by omega] at HO3 HE3;clear hO3 hG3 ye hy hil hOi hEi;go_wp2_with fail;go_roundw
          case rel=>exact ⟨i+1,by omega,by go_num,HO3,HE3.out⟩
          case measure=>simp [intOf]<;>omega
         ·obtain rfl:n=i:=by omega
          have hrow:=hid (show KH w.heap.size Z (slv g n c) (ZZ n M) by
           have h2:=hOi.out;have h3:ngL (mnL n M) n=(mnL n M).map (λz=>0-z):=by have:=KjX (mnL n M);rw [HmL.out] at this;exact this
           rw [h3,<-hwz.out] at h2;have h4:(ZZ n M).length=n:=by rw [hwz.out,List.length_map,HmL.out]
           unfold Kd at h2;rw [Kq,h4] at h2;unfold KH
           rw [h4];exact h2)
          go_wp2_with fail;go_ret2;exact ⟨.inl ⟨hok.out,_,rfl,hrow.out⟩,hEi⟩
       ·clear hz';go_wp2_with fail
        go_loopw [12] (λiv wr => ∃i:Nat,i<=n/\iv = .int .i64 i/\Hid (Kd 3 w.heap.size wr g c (is (ngL (mnL n M) i)))/\Ext w wr) (λiv _=>n-(intOf iv).toNat)
        case atStart=>exact ⟨0,by omega,by go_num,hid (by rw [Khy];exact hO2.out),hEr⟩
        case round =>
         clear hO2 z0;obtain ⟨i,hi,rfl,hOi,hEi⟩:=hrel;generalize wr=Z at *
         by_cases hin:i<n
         ·have hii:(i:Int)<(n:Int):=by omega
          have hil:i<(mnL n M).length:=by rw [HmL.out];exact hin
          have y0:=hOi.out.cell (j:=i) (by simp;exact hil);have ye:(is (ngL (mnL n M) i))[i]'(by simp;exact hil) = .int .i64 ((mnL n M).getD i 0):=by rw [<-Km8 hil];simp [is]
          rw [ye] at y0;have yb:=HmB.out i;obtain ⟨y,hy⟩ : ∃y,y=(mnL n M).getD i 0:=⟨_,rfl⟩
          have Hst:=hid (Khx hil);rw [<-hy] at y0 yb Hst;have hf:=hOi.out.frozen i;obtain ⟨hO3,hG3⟩:=hOi.out.set i (.int .i64 (0-y));rw [<-YO,Hst.out] at hO3;have HO3:=hid hO3;have HE3:=hid (Kb hEi hG3 hOi.out.lt.1);have hwy:IntKind.i64.wrap (0-y)=0-y:=IntWalk.i64_in _ (by omega);rw [show (0:Int)-y = -y by omega] at HO3 HE3;clear hO3 hG3 ye hy hil hOi hEi;go_wp2_with fail;go_roundw
          case rel=>exact ⟨i+1,by omega,by go_num,HO3,HE3.out⟩
          case measure=>simp [intOf]<;>omega
         ·obtain rfl:n=i:=by omega
          have hrow:=hid (show KH w.heap.size Z (slv g n c) (ZZ n M) by
           have h2:=hOi.out;have h3:ngL (mnL n M) n=(mnL n M).map (λz=>0-z):=by have:=KjX (mnL n M);rw [HmL.out] at this;exact this
           rw [h3,<-hwz.out] at h2;have h4:(ZZ n M).length=n:=by rw [hwz.out,List.length_map,HmL.out]
           unfold Kd at h2;rw [Kq,h4] at h2;unfold KH
           rw [h4];exact h2)
          go_wp2_with fail;go_ret2;exact ⟨.inl ⟨hok.out,_,rfl,hrow.out⟩,hEi⟩
      ·have hwz:=hid (show ZZ n M=mnL n M from if_neg (by rw [<-Hz.out];exact hng))
       have hrow:=hid (show KH w.heap.size X (slv g n c) (ZZ n M) by
        rw [hwz.out];have:=hO2.out;unfold Kd at this;rw [Kq,HmL.out] at this;unfold KH
        rw [HmL.out];exact this)
       clear hz'
       rcases h1 with rfl | rfl
       ·go_wp2_with fail;go_ret2;exact ⟨.inl ⟨hok.out,_,rfl,hrow.out⟩,hEr⟩
       ·go_wp2_with fail;go_ret2;exact ⟨.inl ⟨hok.out,_,rfl,hrow.out⟩,hEr⟩
    ·have h1a : ¬gz=1:=λh=>h1 (.inl h)
     have h1b : ¬gz = -1:=λh=>h1 (.inr h)
     have h2a:(gz != 1)=true:=by simp [h1a]
     have h2b:(gz != -1)=true:=by simp [h1b]
     have hres:=hid (hno.out (λh=>by have:=hg.out;rw [h.1] at this;omega));clear hno hg hz h1;go_wp2_with fail;go_ret2;exact hres.out
end
end Go.Proofs.YtdmaofimeknkbaaGreatDoor
