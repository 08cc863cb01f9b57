/- Part 16 of the proof of the claim: contracts of the functions that it reaches, and plain laws; no condition. -/
import Derived.Test.YtdmaofimeknkbaaGreatDoorQ15
set_option maxRecDepth 100000
set_option maxHeartbeats 20000000
namespace Go.Proofs.YtdmaofimeknkbaaGreatDoor
section
open Go.RowKit Go.Sort
open Lib (hid)
theorem Kju (a c:Int):qn (a*1+c*1) (1*1)=a+c/\qd (a*1+c*1) (1*1)=1:=by
 unfold qn qd qg;simp
theorem Kmy {a c:Int} (ha:nd a<=100000000) (hc:nd c<=100000000) {w:World} (hL:Laid w) :
  Calls Tryz.prog 80 #[.agg #[I a,I 1],.agg #[I c,I 1]] w λe w'=>e = .returned (.agg #[I (a+c),I 1])/\Ext w w':=by
 have HL:=hid hL;have hadd:=hid (λw hL=>KfR (a:=a) (b:=c) (w:=w) (by unfold LIM;omega) (by unfold LIM;omega) hL);obtain ⟨x,hx⟩ : ∃x,x=a+c:=⟨_,rfl⟩
 rw [<-hx] at hadd ⊢;have hb1:=Kau 1;rw [decide_eq_true rfl] at hb1;have HI1:=hid (show I 1 = .string ⟨#[49]⟩ by unfold I S;rw [Yl]);obtain ⟨X,hXe,hX,c0,c1,c2,c3,hO⟩:=YU w 47 (I a) (I 1) (I c) (I 1) (.string ⟨#[]⟩) (.string ⟨#[]⟩);have HO:=hid hO;obtain ⟨bs,hbs⟩ : ∃bs,bs=w.heap.size:=⟨_,rfl⟩
 have hsz:=hX.size;clear hO hx ha hc hL
 go_enter Tryz.func80,Tryz.ntmps80
 go_wp2_with fail;rw [<-hbs] at c0 c1 c2 c3 HO ⊢;have hbs2:w.heap.size<=bs+1+1:=by omega
 clear hXe hbs;refine (hadd.out _ (HL.out.ext hX)).mono ?_;rintro e w1 ⟨rfl,hE1⟩;replace c0:=hE1.cell c0;replace c1:=hE1.cell c1;replace c2:=hE1.cell c2;replace c3:=hE1.cell c3;replace HO:=hid (HO.out.ext hE1);replace hX:=hX.trans hE1;clear hE1;obtain ⟨q0,q1,f0,f1,r0,r1,hF⟩:=Qj hX hbs2 HO.out (I x) (.string ⟨#[49]⟩);have Hres:=hid (show YJ w (.agg #[I x,I 1]) (.returned (.agg #[I x,.string ⟨#[49]⟩])) _ from ⟨by rw [HI1.out],hF.out⟩);go_wp2_with fail;refine bodyPost_ret (v := .agg #[I x,.string ⟨#[49]⟩]) (by simp [results,Tryz.results80,go_sem,r0,r1]) rfl Hres.out
theorem Kmx {a b c d:Int} (ha:nd a<=100000000) (hb:nd b<=100000000) (hc:nd c<=100000000) (hd:nd d<=100000000) (hb0:0<b) (hd0:0<d) {w:World} (hL:Laid w) :
  Calls Tryz.prog 80 #[.agg #[I a,I b],.agg #[I c,I d]] w λe w'=>e = .returned (.agg #[I (qn (a*d+c*b) (b*d)),I (qd (a*d+c*b) (b*d))])/\Ext w w':=by
 by_cases h11:b=1/\d=1
 ·obtain ⟨rfl,rfl⟩:=h11;rw [(Kju a c).1,(Kju a c).2];exact Kmy ha hc hL
 have HL:=hid hL;have n1:=QY a d;have n2:=QY c b;have n3:=QY b d;have n4:=KaX (a*d) (c*b);have hbd:0<b*d:=Int.mul_pos hb0 hd0;have hl:=hid (λw hL=>Yy (n:=a*d+c*b) (d:=b*d) (w:=w) (by unfold LIM;omega) (by unfold LIM;omega) (by omega) hL);have hm1:=hid (λw hL=>ZR (a:=a) (b:=d) (w:=w) (by unfold LIM;omega) hL);have hm2:=hid (λw hL=>ZR (a:=c) (b:=b) (w:=w) (by unfold LIM;omega) hL);have hm3:=hid (λw hL=>ZR (a:=b) (b:=d) (w:=w) (by unfold LIM;omega) hL);have hadd:=hid (λw hL=>KfR (a:=a*d) (b:=c*b) (w:=w) (by unfold LIM;omega) (by unfold LIM;omega) hL);have hb1:=hid (Kap (a:=a) (b:=b) (by unfold LIM;omega) (by unfold LIM;omega));have hb2:=hid (Kap (a:=c) (b:=d) (by unfold LIM;omega) (by unfold LIM;omega))
 have HP:=hid (λ(h1:(Kt 9 a&&Kt 9 b)=true) (h2:(Kt 9 c&&Kt 9 d)=true)=>(show (a*d).natAbs<=1000000000000000000/\(c*b).natAbs<=1000000000000000000/\(b*d).natAbs<=1000000000000000000 from by
  simp only [Bool.and_eq_true] at h1 h2;have f1:=QO h1.1;have f2:=QO h2.1
  have f3:=QO h1.2;have f4:=QO h2.2
  have g1:=Nat.mul_le_mul (Nat.le_of_lt f1) (Nat.le_of_lt f4);rw [<-Int.natAbs_mul] at g1
  have g2:=Nat.mul_le_mul (Nat.le_of_lt f2) (Nat.le_of_lt f3);rw [<-Int.natAbs_mul] at g2
  have g3:=Nat.mul_le_mul (Nat.le_of_lt f3) (Nat.le_of_lt f4);rw [<-Int.natAbs_mul] at g3
  exact ⟨by omega,by omega,by omega⟩))
 have Hof:=hid (λ(h1:(Kt 9 a&&Kt 9 b)=true) (h2:(Kt 9 c&&Kt 9 d)=true) w hL=>KjP (n:=a*d+c*b) (d:=b*d) (by
  have:=HP.out h1 h2;omega) (by
  have:=HP.out h1 h2;omega) (w:=w) hL)
 have Hw:=hid (λ(h1:(Kt 9 a&&Kt 9 b)=true) (h2:(Kt 9 c&&Kt 9 d)=true)=>(show IntKind.i64.wrap (a*d)=a*d/\IntKind.i64.wrap (c*b)=c*b/\IntKind.i64.wrap (a*d+c*b)=a*d+c*b/\IntKind.i64.wrap (b*d)=b*d from by
  have:=HP.out h1 h2
  exact ⟨IntWalk.i64_in _ (by omega),IntWalk.i64_in _ (by omega),IntWalk.i64_in _ (by omega),IntWalk.i64_in _ (by omega)⟩))
 obtain ⟨x,hx⟩ : ∃x,x=qn (a*d+c*b) (b*d):=⟨_,rfl⟩
 obtain ⟨y,hy⟩ : ∃y,y=qd (a*d+c*b) (b*d):=⟨_,rfl⟩
 rw [<-hx,<-hy] at hl ⊢;rw [<-hx,<-hy] at Hof;have v1:Kt 9 a=true->(if Kt 9 a=true then a else 0)=a:=λh=>if_pos h
 have v2:Kt 9 b=true->(if Kt 9 b=true then b else 0)=b:=λh=>if_pos h
 have v3:Kt 9 c=true->(if Kt 9 c=true then c else 0)=c:=λh=>if_pos h
 have v4:Kt 9 d=true->(if Kt 9 d=true then d else 0)=d:=λh=>if_pos h
 have hq1:=Kau b;have hq2:=Kau d;have H11:=hid h11;clear hx hy n1 n2 n3 n4 hbd ha hb hc hd hb0 hd0 hL HP h11;obtain ⟨X,hXe,hX,c0,c1,c2,c3,hO⟩:=YU w 47 (I a) (I b) (I c) (I d) (.string ⟨#[]⟩) (.string ⟨#[]⟩);have HO:=hid hO;obtain ⟨bs,hbs⟩ : ∃bs,bs=w.heap.size:=⟨_,rfl⟩
 have hsz:=hX.size;clear hO
 by_cases hb1':b=1
 ·have hd1' : ¬d=1:=λh=>H11.out ⟨hb1',h⟩
  rw [decide_eq_true hb1'] at hq1;rw [decide_eq_false hd1'] at hq2;clear hb1' hd1' H11
  cases h1:(Kt 9 a&&Kt 9 b)
  ·rw [h1] at hb1;generalize (if Kt 9 a=true then a else 0)=a' at *;generalize (if Kt 9 b=true then b else 0)=b' at *;clear Hof Hw h1 v1 v2 v3 v4 hb2
   go_enter Tryz.func80,Tryz.ntmps80
   go_wp2_with fail;rw [<-hbs] at c0 c1 c2 c3 HO ⊢;have hbs2:w.heap.size<=bs+1+1:=by omega
   clear hXe hbs;refine (hb1.out _).mono ?_;rintro e w1 ⟨rfl,hE1⟩;replace c0:=hE1.cell c0;replace c1:=hE1.cell c1;replace c2:=hE1.cell c2;replace c3:=hE1.cell c3;replace HO:=hid (HO.out.ext hE1);replace hX:=hX.trans hE1;clear hE1;go_wp2_with fail;generalize w1=X at *;have d7:Ext X X.drew:=(Ext.refl X).drew;refine Ke (S:=λW=>Ext X W) 17 (by kernel_rfl) (by simp) ?_;intro inv;refine tkS (i:=0) (v := .pointer (some ⟨bs,0,none⟩)) rfl d7 inv ?_;intro inv;go_simp;refine tkA (i:=1) (v:=I a) rfl (.inl ⟨by rfl,λW hW=>by have z0:=hW.cell c0;go_simp⟩) d7 inv ?_;intro inv;go_simp;refine tkS (i:=2) (v := .pointer (some ⟨bs+1,1,none⟩)) rfl d7 inv ?_;intro inv;go_simp;refine tkA (i:=3) (v:=I d) rfl (.inl ⟨by rfl,λW hW=>by have z0:=hW.cell c3;go_simp⟩) d7 inv ?_;intro inv;go_simp;refine tkS (i:=5) (v := .pointer (some ⟨bs+1,0,none⟩)) rfl d7 inv ?_;intro inv;go_simp;refine tkA (i:=6) (v:=I c) rfl (.inl ⟨by rfl,λW hW=>by have z0:=hW.cell c2;go_simp⟩) d7 inv ?_;intro inv;go_simp;refine tkS (i:=7) (v := .pointer (some ⟨bs,1,none⟩)) rfl d7 inv ?_;intro inv;go_simp;refine tkA (i:=8) (v:=I b) rfl (.inl ⟨by rfl,λW hW=>by have z0:=hW.cell c1;go_simp⟩) d7 inv ?_;intro inv;go_simp;refine tkS (i:=11) (v := .pointer (some ⟨bs,1,none⟩)) rfl d7 inv ?_;intro inv;go_simp;refine tkA (i:=12) (v:=I b) rfl (.inl ⟨by rfl,λW hW=>by have z0:=hW.cell c1;go_simp⟩) d7 inv ?_;intro inv;go_simp;refine tkS (i:=13) (v := .pointer (some ⟨bs+1,1,none⟩)) rfl d7 inv ?_;intro inv;go_simp
   refine tkA (i:=14) (v:=I d) rfl (.inl ⟨by rfl,λW hW=>by have z0:=hW.cell c3;go_simp⟩) d7 inv ?_;intro inv;go_simp;refine Kh (i:=4) rfl (by kernel_rfl) (λK0 hK0 => ?_);go_simp;refine (hm1.out _ (HL.out.ext (hX.trans d7))).mono ?_;rintro e w0 ⟨rfl,hF0⟩;have e0:=d7.trans hF0;refine hK0 _ _ e0 ?_;clear hK0;refine Kh (i:=9) rfl (by kernel_rfl) (λK1 hK1 => ?_);go_simp;refine (hm2.out _ (HL.out.ext (hX.trans e0))).mono ?_;rintro e w1 ⟨rfl,hF1⟩;have e1:=e0.trans hF1;refine hK1 _ _ e1 ?_;clear hK1;refine Kh (i:=10) rfl (by kernel_rfl) (λK2 hK2 => ?_);go_simp;refine (hadd.out _ (HL.out.ext (hX.trans e1))).mono ?_;rintro e w2 ⟨rfl,hF2⟩;have e2:=e1.trans hF2;refine hK2 _ _ e2 ?_;clear hK2;refine Kh (i:=15) rfl (by kernel_rfl) (λK3 hK3 => ?_);go_simp;refine (hm3.out _ (HL.out.ext (hX.trans e2))).mono ?_;rintro e w3 ⟨rfl,hF3⟩;have e3:=e2.trans hF3;refine hK3 _ _ e3 ?_;clear hK3;refine Kh (i:=16) rfl (by kernel_rfl) (λK4 hK4 => ?_);go_simp;refine (hl.out _ (HL.out.ext (hX.trans e3))).mono ?_;rintro e w4 ⟨rfl,hF4⟩;have e4:=e3.trans hF4;refine hK4 _ _ e4 ?_;clear hK4;refine Ki (by kernel_rfl) ?_;replace HO:=hid (HO.out.ext e4);replace hX:=hX.trans e4;obtain ⟨q0,q1,f0,f1,r0,r1,hF⟩:=Qj hX hbs2 HO.out (I x) (I y);have Hres:=hid (show YJ w (.agg #[I x,I y]) (.returned (.agg #[I x,I y])) _ from ⟨rfl,hF.out⟩);go_wp2_with fail
   refine bodyPost_ret (v := .agg #[I x,I y]) (by simp [results,Tryz.results80,go_sem,r0,r1]) rfl Hres.out
  ·rw [h1] at hb1
   cases h2:(Kt 9 c&&Kt 9 d)
   ·rw [h2] at hb2;generalize (if Kt 9 a=true then a else 0)=a' at *;generalize (if Kt 9 b=true then b else 0)=b' at *;generalize (if Kt 9 c=true then c else 0)=c' at *;generalize (if Kt 9 d=true then d else 0)=d' at *;clear Hof Hw h1 h2 v1 v2 v3 v4
    go_enter Tryz.func80,Tryz.ntmps80
    go_wp2_with fail;rw [<-hbs] at c0 c1 c2 c3 HO ⊢;have hbs2:w.heap.size<=bs+1+1:=by omega
    clear hXe hbs;refine (hb1.out _).mono ?_;rintro e w1 ⟨rfl,hE1⟩;replace c0:=hE1.cell c0;replace c1:=hE1.cell c1;replace c2:=hE1.cell c2;replace c3:=hE1.cell c3;replace HO:=hid (HO.out.ext hE1);replace hX:=hX.trans hE1;clear hE1;go_wp2_with fail;refine (hb2.out _).mono ?_;rintro e w2 ⟨rfl,hE1⟩;replace c0:=hE1.cell c0;replace c1:=hE1.cell c1;replace c2:=hE1.cell c2;replace c3:=hE1.cell c3;replace HO:=hid (HO.out.ext hE1);replace hX:=hX.trans hE1;clear hE1;go_wp2_with fail;generalize w2=X at *;have d7:Ext X X.drew:=(Ext.refl X).drew;refine Ke (S:=λW=>Ext X W) 17 (by kernel_rfl) (by simp) ?_;intro inv;refine tkS (i:=0) (v := .pointer (some ⟨bs,0,none⟩)) rfl d7 inv ?_;intro inv;go_simp;refine tkA (i:=1) (v:=I a) rfl (.inl ⟨by rfl,λW hW=>by have z0:=hW.cell c0;go_simp⟩) d7 inv ?_;intro inv;go_simp;refine tkS (i:=2) (v := .pointer (some ⟨bs+1,1,none⟩)) rfl d7 inv ?_;intro inv;go_simp;refine tkA (i:=3) (v:=I d) rfl (.inl ⟨by rfl,λW hW=>by have z0:=hW.cell c3;go_simp⟩) d7 inv ?_;intro inv;go_simp;refine tkS (i:=5) (v := .pointer (some ⟨bs+1,0,none⟩)) rfl d7 inv ?_;intro inv;go_simp;refine tkA (i:=6) (v:=I c) rfl (.inl ⟨by rfl,λW hW=>by have z0:=hW.cell c2;go_simp⟩) d7 inv ?_;intro inv;go_simp;refine tkS (i:=7) (v := .pointer (some ⟨bs,1,none⟩)) rfl d7 inv ?_;intro inv;go_simp;refine tkA (i:=8) (v:=I b) rfl (.inl ⟨by rfl,λW hW=>by have z0:=hW.cell c1;go_simp⟩) d7 inv ?_;intro inv;go_simp
    refine tkS (i:=11) (v := .pointer (some ⟨bs,1,none⟩)) rfl d7 inv ?_;intro inv;go_simp;refine tkA (i:=12) (v:=I b) rfl (.inl ⟨by rfl,λW hW=>by have z0:=hW.cell c1;go_simp⟩) d7 inv ?_;intro inv;go_simp;refine tkS (i:=13) (v := .pointer (some ⟨bs+1,1,none⟩)) rfl d7 inv ?_;intro inv;go_simp;refine tkA (i:=14) (v:=I d) rfl (.inl ⟨by rfl,λW hW=>by have z0:=hW.cell c3;go_simp⟩) d7 inv ?_;intro inv;go_simp;refine Kh (i:=4) rfl (by kernel_rfl) (λK0 hK0 => ?_);go_simp;refine (hm1.out _ (HL.out.ext (hX.trans d7))).mono ?_;rintro e w0 ⟨rfl,hF0⟩;have e0:=d7.trans hF0;refine hK0 _ _ e0 ?_;clear hK0;refine Kh (i:=9) rfl (by kernel_rfl) (λK1 hK1 => ?_);go_simp;refine (hm2.out _ (HL.out.ext (hX.trans e0))).mono ?_;rintro e w1 ⟨rfl,hF1⟩;have e1:=e0.trans hF1;refine hK1 _ _ e1 ?_;clear hK1;refine Kh (i:=10) rfl (by kernel_rfl) (λK2 hK2 => ?_);go_simp;refine (hadd.out _ (HL.out.ext (hX.trans e1))).mono ?_;rintro e w2 ⟨rfl,hF2⟩;have e2:=e1.trans hF2;refine hK2 _ _ e2 ?_;clear hK2;refine Kh (i:=15) rfl (by kernel_rfl) (λK3 hK3 => ?_);go_simp;refine (hm3.out _ (HL.out.ext (hX.trans e2))).mono ?_;rintro e w3 ⟨rfl,hF3⟩;have e3:=e2.trans hF3;refine hK3 _ _ e3 ?_;clear hK3;refine Kh (i:=16) rfl (by kernel_rfl) (λK4 hK4 => ?_);go_simp;refine (hl.out _ (HL.out.ext (hX.trans e3))).mono ?_;rintro e w4 ⟨rfl,hF4⟩;have e4:=e3.trans hF4;refine hK4 _ _ e4 ?_;clear hK4;refine Ki (by kernel_rfl) ?_;replace HO:=hid (HO.out.ext e4)
    replace hX:=hX.trans e4;obtain ⟨q0,q1,f0,f1,r0,r1,hF⟩:=Qj hX hbs2 HO.out (I x) (I y);have Hres:=hid (show YJ w (.agg #[I x,I y]) (.returned (.agg #[I x,I y])) _ from ⟨rfl,hF.out⟩);go_wp2_with fail;refine bodyPost_ret (v := .agg #[I x,I y]) (by simp [results,Tryz.results80,go_sem,r0,r1]) rfl Hres.out
   ·rw [h2] at hb2;obtain ⟨hw1,hw2,hw3,hw4⟩:=Hw.out h1 h2;have hof:=hid (Hof.out h1 h2);simp only [Bool.and_eq_true] at h1 h2;rw [v1 h1.1,v2 h1.2] at hb1;rw [v3 h2.1,v4 h2.2] at hb2;clear Hof Hw h1 h2 v1 v2 v3 v4
    go_enter Tryz.func80,Tryz.ntmps80
    go_wp2_with fail;rw [<-hbs] at c0 c1 c2 c3 HO ⊢;have hbs2:w.heap.size<=bs+1+1:=by omega
    clear hXe hbs;refine (hb1.out _).mono ?_;rintro e w1 ⟨rfl,hE1⟩;replace c0:=hE1.cell c0;replace c1:=hE1.cell c1;replace c2:=hE1.cell c2;replace c3:=hE1.cell c3;replace HO:=hid (HO.out.ext hE1);replace hX:=hX.trans hE1;clear hE1;go_wp2_with fail;refine (hb2.out _).mono ?_;rintro e w2 ⟨rfl,hE1⟩;replace c0:=hE1.cell c0;replace c1:=hE1.cell c1;replace c2:=hE1.cell c2;replace c3:=hE1.cell c3;replace HO:=hid (HO.out.ext hE1);replace hX:=hX.trans hE1;clear hE1;go_wp2_with fail;refine (hof.out _ (HL.out.ext hX)).mono ?_;rintro e w3 ⟨rfl,hE1⟩;replace c0:=hE1.cell c0;replace c1:=hE1.cell c1;replace c2:=hE1.cell c2;replace c3:=hE1.cell c3;replace HO:=hid (HO.out.ext hE1);replace hX:=hX.trans hE1;clear hE1;obtain ⟨q0,q1,f0,f1,r0,r1,hF⟩:=Qj hX hbs2 HO.out (I x) (I y);have Hres:=hid (show YJ w (.agg #[I x,I y]) (.returned (.agg #[I x,I y])) _ from ⟨rfl,hF.out⟩);go_wp2_with fail;refine bodyPost_ret (v := .agg #[I x,I y]) (by simp [results,Tryz.results80,go_sem,r0,r1]) rfl Hres.out
 ·rw [decide_eq_false hb1'] at hq1;clear hb1' H11 hq2
  cases h1:(Kt 9 a&&Kt 9 b)
  ·rw [h1] at hb1;generalize (if Kt 9 a=true then a else 0)=a' at *;generalize (if Kt 9 b=true then b else 0)=b' at *;clear Hof Hw h1 v1 v2 v3 v4 hb2
   go_enter Tryz.func80,Tryz.ntmps80
   go_wp2_with fail;rw [<-hbs] at c0 c1 c2 c3 HO ⊢;have hbs2:w.heap.size<=bs+1+1:=by omega
   clear hXe hbs;refine (hb1.out _).mono ?_;rintro e w1 ⟨rfl,hE1⟩;replace c0:=hE1.cell c0;replace c1:=hE1.cell c1;replace c2:=hE1.cell c2;replace c3:=hE1.cell c3;replace HO:=hid (HO.out.ext hE1);replace hX:=hX.trans hE1;clear hE1;go_wp2_with fail;generalize w1=X at *;have d7:Ext X X.drew:=(Ext.refl X).drew;refine Ke (S:=λW=>Ext X W) 17 (by kernel_rfl) (by simp) ?_;intro inv;refine tkS (i:=0) (v := .pointer (some ⟨bs,0,none⟩)) rfl d7 inv ?_;intro inv;go_simp;refine tkA (i:=1) (v:=I a) rfl (.inl ⟨by rfl,λW hW=>by have z0:=hW.cell c0;go_simp⟩) d7 inv ?_;intro inv;go_simp;refine tkS (i:=2) (v := .pointer (some ⟨bs+1,1,none⟩)) rfl d7 inv ?_;intro inv;go_simp;refine tkA (i:=3) (v:=I d) rfl (.inl ⟨by rfl,λW hW=>by have z0:=hW.cell c3;go_simp⟩) d7 inv ?_;intro inv;go_simp;refine tkS (i:=5) (v := .pointer (some ⟨bs+1,0,none⟩)) rfl d7 inv ?_;intro inv;go_simp;refine tkA (i:=6) (v:=I c) rfl (.inl ⟨by rfl,λW hW=>by have z0:=hW.cell c2;go_simp⟩) d7 inv ?_;intro inv;go_simp;refine tkS (i:=7) (v := .pointer (some ⟨bs,1,none⟩)) rfl d7 inv ?_;intro inv;go_simp;refine tkA (i:=8) (v:=I b) rfl (.inl ⟨by rfl,λW hW=>by have z0:=hW.cell c1;go_simp⟩) d7 inv ?_;intro inv;go_simp;refine tkS (i:=11) (v := .pointer (some ⟨bs,1,none⟩)) rfl d7 inv ?_;intro inv;go_simp;refine tkA (i:=12) (v:=I b) rfl (.inl ⟨by rfl,λW hW=>by have z0:=hW.cell c1;go_simp⟩) d7 inv ?_;intro inv;go_simp;refine tkS (i:=13) (v := .pointer (some ⟨bs+1,1,none⟩)) rfl d7 inv ?_;intro inv;go_simp
   refine tkA (i:=14) (v:=I d) rfl (.inl ⟨by rfl,λW hW=>by have z0:=hW.cell c3;go_simp⟩) d7 inv ?_;intro inv;go_simp;refine Kh (i:=4) rfl (by kernel_rfl) (λK0 hK0 => ?_);go_simp;refine (hm1.out _ (HL.out.ext (hX.trans d7))).mono ?_;rintro e w0 ⟨rfl,hF0⟩;have e0:=d7.trans hF0;refine hK0 _ _ e0 ?_;clear hK0;refine Kh (i:=9) rfl (by kernel_rfl) (λK1 hK1 => ?_);go_simp;refine (hm2.out _ (HL.out.ext (hX.trans e0))).mono ?_;rintro e w1 ⟨rfl,hF1⟩;have e1:=e0.trans hF1;refine hK1 _ _ e1 ?_;clear hK1;refine Kh (i:=10) rfl (by kernel_rfl) (λK2 hK2 => ?_);go_simp;refine (hadd.out _ (HL.out.ext (hX.trans e1))).mono ?_;rintro e w2 ⟨rfl,hF2⟩;have e2:=e1.trans hF2;refine hK2 _ _ e2 ?_;clear hK2;refine Kh (i:=15) rfl (by kernel_rfl) (λK3 hK3 => ?_);go_simp;refine (hm3.out _ (HL.out.ext (hX.trans e2))).mono ?_;rintro e w3 ⟨rfl,hF3⟩;have e3:=e2.trans hF3;refine hK3 _ _ e3 ?_;clear hK3;refine Kh (i:=16) rfl (by kernel_rfl) (λK4 hK4 => ?_);go_simp;refine (hl.out _ (HL.out.ext (hX.trans e3))).mono ?_;rintro e w4 ⟨rfl,hF4⟩;have e4:=e3.trans hF4;refine hK4 _ _ e4 ?_;clear hK4;refine Ki (by kernel_rfl) ?_;replace HO:=hid (HO.out.ext e4);replace hX:=hX.trans e4;obtain ⟨q0,q1,f0,f1,r0,r1,hF⟩:=Qj hX hbs2 HO.out (I x) (I y);have Hres:=hid (show YJ w (.agg #[I x,I y]) (.returned (.agg #[I x,I y])) _ from ⟨rfl,hF.out⟩);go_wp2_with fail
   refine bodyPost_ret (v := .agg #[I x,I y]) (by simp [results,Tryz.results80,go_sem,r0,r1]) rfl Hres.out
  ·rw [h1] at hb1
   cases h2:(Kt 9 c&&Kt 9 d)
   ·rw [h2] at hb2;generalize (if Kt 9 a=true then a else 0)=a' at *;generalize (if Kt 9 b=true then b else 0)=b' at *;generalize (if Kt 9 c=true then c else 0)=c' at *;generalize (if Kt 9 d=true then d else 0)=d' at *;clear Hof Hw h1 h2 v1 v2 v3 v4
    go_enter Tryz.func80,Tryz.ntmps80
    go_wp2_with fail;rw [<-hbs] at c0 c1 c2 c3 HO ⊢;have hbs2:w.heap.size<=bs+1+1:=by omega
    clear hXe hbs;refine (hb1.out _).mono ?_;rintro e w1 ⟨rfl,hE1⟩;replace c0:=hE1.cell c0;replace c1:=hE1.cell c1;replace c2:=hE1.cell c2;replace c3:=hE1.cell c3;replace HO:=hid (HO.out.ext hE1);replace hX:=hX.trans hE1;clear hE1;go_wp2_with fail;refine (hb2.out _).mono ?_;rintro e w2 ⟨rfl,hE1⟩;replace c0:=hE1.cell c0;replace c1:=hE1.cell c1;replace c2:=hE1.cell c2;replace c3:=hE1.cell c3;replace HO:=hid (HO.out.ext hE1);replace hX:=hX.trans hE1;clear hE1;go_wp2_with fail;generalize w2=X at *;have d7:Ext X X.drew:=(Ext.refl X).drew;refine Ke (S:=λW=>Ext X W) 17 (by kernel_rfl) (by simp) ?_;intro inv;refine tkS (i:=0) (v := .pointer (some ⟨bs,0,none⟩)) rfl d7 inv ?_;intro inv;go_simp;refine tkA (i:=1) (v:=I a) rfl (.inl ⟨by rfl,λW hW=>by have z0:=hW.cell c0;go_simp⟩) d7 inv ?_;intro inv;go_simp;refine tkS (i:=2) (v := .pointer (some ⟨bs+1,1,none⟩)) rfl d7 inv ?_;intro inv;go_simp;refine tkA (i:=3) (v:=I d) rfl (.inl ⟨by rfl,λW hW=>by have z0:=hW.cell c3;go_simp⟩) d7 inv ?_;intro inv;go_simp;refine tkS (i:=5) (v := .pointer (some ⟨bs+1,0,none⟩)) rfl d7 inv ?_;intro inv;go_simp;refine tkA (i:=6) (v:=I c) rfl (.inl ⟨by rfl,λW hW=>by have z0:=hW.cell c2;go_simp⟩) d7 inv ?_;intro inv;go_simp;refine tkS (i:=7) (v := .pointer (some ⟨bs,1,none⟩)) rfl d7 inv ?_;intro inv;go_simp;refine tkA (i:=8) (v:=I b) rfl (.inl ⟨by rfl,λW hW=>by have z0:=hW.cell c1;go_simp⟩) d7 inv ?_;intro inv;go_simp
    refine tkS (i:=11) (v := .pointer (some ⟨bs,1,none⟩)) rfl d7 inv ?_;intro inv;go_simp;refine tkA (i:=12) (v:=I b) rfl (.inl ⟨by rfl,λW hW=>by have z0:=hW.cell c1;go_simp⟩) d7 inv ?_;intro inv;go_simp;refine tkS (i:=13) (v := .pointer (some ⟨bs+1,1,none⟩)) rfl d7 inv ?_;intro inv;go_simp;refine tkA (i:=14) (v:=I d) rfl (.inl ⟨by rfl,λW hW=>by have z0:=hW.cell c3;go_simp⟩) d7 inv ?_;intro inv;go_simp;refine Kh (i:=4) rfl (by kernel_rfl) (λK0 hK0 => ?_);go_simp;refine (hm1.out _ (HL.out.ext (hX.trans d7))).mono ?_;rintro e w0 ⟨rfl,hF0⟩;have e0:=d7.trans hF0;refine hK0 _ _ e0 ?_;clear hK0;refine Kh (i:=9) rfl (by kernel_rfl) (λK1 hK1 => ?_);go_simp;refine (hm2.out _ (HL.out.ext (hX.trans e0))).mono ?_;rintro e w1 ⟨rfl,hF1⟩;have e1:=e0.trans hF1;refine hK1 _ _ e1 ?_;clear hK1;refine Kh (i:=10) rfl (by kernel_rfl) (λK2 hK2 => ?_);go_simp;refine (hadd.out _ (HL.out.ext (hX.trans e1))).mono ?_;rintro e w2 ⟨rfl,hF2⟩;have e2:=e1.trans hF2;refine hK2 _ _ e2 ?_;clear hK2;refine Kh (i:=15) rfl (by kernel_rfl) (λK3 hK3 => ?_);go_simp;refine (hm3.out _ (HL.out.ext (hX.trans e2))).mono ?_;rintro e w3 ⟨rfl,hF3⟩;have e3:=e2.trans hF3;refine hK3 _ _ e3 ?_;clear hK3;refine Kh (i:=16) rfl (by kernel_rfl) (λK4 hK4 => ?_);go_simp;refine (hl.out _ (HL.out.ext (hX.trans e3))).mono ?_;rintro e w4 ⟨rfl,hF4⟩;have e4:=e3.trans hF4;refine hK4 _ _ e4 ?_;clear hK4;refine Ki (by kernel_rfl) ?_;replace HO:=hid (HO.out.ext e4)
    replace hX:=hX.trans e4;obtain ⟨q0,q1,f0,f1,r0,r1,hF⟩:=Qj hX hbs2 HO.out (I x) (I y);have Hres:=hid (show YJ w (.agg #[I x,I y]) (.returned (.agg #[I x,I y])) _ from ⟨rfl,hF.out⟩);go_wp2_with fail;refine bodyPost_ret (v := .agg #[I x,I y]) (by simp [results,Tryz.results80,go_sem,r0,r1]) rfl Hres.out
   ·rw [h2] at hb2;obtain ⟨hw1,hw2,hw3,hw4⟩:=Hw.out h1 h2;have hof:=hid (Hof.out h1 h2);simp only [Bool.and_eq_true] at h1 h2;rw [v1 h1.1,v2 h1.2] at hb1;rw [v3 h2.1,v4 h2.2] at hb2;clear Hof Hw h1 h2 v1 v2 v3 v4
    go_enter Tryz.func80,Tryz.ntmps80
    go_wp2_with fail;rw [<-hbs] at c0 c1 c2 c3 HO ⊢;have hbs2:w.heap.size<=bs+1+1:=by omega
    clear hXe hbs;refine (hb1.out _).mono ?_;rintro e w1 ⟨rfl,hE1⟩;replace c0:=hE1.cell c0;replace c1:=hE1.cell c1;replace c2:=hE1.cell c2;replace c3:=hE1.cell c3;replace HO:=hid (HO.out.ext hE1);replace hX:=hX.trans hE1;clear hE1;go_wp2_with fail;refine (hb2.out _).mono ?_;rintro e w2 ⟨rfl,hE1⟩;replace c0:=hE1.cell c0;replace c1:=hE1.cell c1;replace c2:=hE1.cell c2;replace c3:=hE1.cell c3;replace HO:=hid (HO.out.ext hE1);replace hX:=hX.trans hE1;clear hE1;go_wp2_with fail;refine (hof.out _ (HL.out.ext hX)).mono ?_;rintro e w3 ⟨rfl,hE1⟩;replace c0:=hE1.cell c0;replace c1:=hE1.cell c1;replace c2:=hE1.cell c2;replace c3:=hE1.cell c3;replace HO:=hid (HO.out.ext hE1);replace hX:=hX.trans hE1;clear hE1;obtain ⟨q0,q1,f0,f1,r0,r1,hF⟩:=Qj hX hbs2 HO.out (I x) (I y);have Hres:=hid (show YJ w (.agg #[I x,I y]) (.returned (.agg #[I x,I y])) _ from ⟨rfl,hF.out⟩);go_wp2_with fail;refine bodyPost_ret (v := .agg #[I x,I y]) (by simp [results,Tryz.results80,go_sem,r0,r1]) rfl Hres.out
theorem KmB {a b c d:Int} (ha:nd a<=100000000) (hb:nd b<=100000000) (hc:nd c<=100000000) (hd:nd d<=100000000) (hb0:0<b) (hd0:0<d) {w:World} (hL:Laid w) :
  Calls Tryz.prog 43 #[.agg #[I a,I b],.agg #[I c,I d]] w λe w'=>e = .returned (.agg #[I (qn (a*d-c*b) (b*d)),I (qd (a*d-c*b) (b*d))])/\Ext w w':=by
 have HL:=hid hL;have hN:=hid (λw (_:Laid w)=>Kg7 (a:=c) (b:=d) (by unfold LIM;omega) w);have hA:=hid (λw hL=>Kmx (a:=a) (b:=b) (c := -c) (d:=d) (w:=w) ha hb (by rw [Kb4];exact hc) hd hb0 hd0 hL);rw [show a*d + -c*b=a*d-c*b by rw [Int.neg_mul];omega] at hA;obtain ⟨x,hx⟩ : ∃x,x=qn (a*d-c*b) (b*d):=⟨_,rfl⟩
 obtain ⟨y,hy⟩ : ∃y,y=qd (a*d-c*b) (b*d):=⟨_,rfl⟩
 rw [<-hx,<-hy] at hA ⊢;generalize -c=c' at *;clear hx hy ha hb hc hd hb0 hd0 hL;obtain ⟨X,hXe,hX,c0,c1,c2,c3,hO⟩:=YU w 47 (I a) (I b) (I c) (I d) (.string ⟨#[]⟩) (.string ⟨#[]⟩);have HO:=hid hO;obtain ⟨bs,hbs⟩ : ∃bs,bs=w.heap.size:=⟨_,rfl⟩
 have hsz:=hX.size;clear hO
 go_enter Tryz.func43,Tryz.ntmps43
 go_wp2_with fail;rw [<-hbs] at c0 c1 c2 c3 HO ⊢;have hbs2:w.heap.size<=bs+1+1:=by omega
 clear hXe hbs;have d7:Ext X X.drew:=(Ext.refl X).drew;refine Ke (S:=λW=>Ext X W) 4 (by kernel_rfl) (by simp) ?_;intro inv;refine tkA (i:=0) (v := .agg #[I a,I b]) rfl (.inl ⟨by rfl,λW hW=>by have z0:=hW.cell c0;have z1:=hW.cell c1;go_simp⟩) d7 inv ?_;intro inv;go_simp;refine tkA (i:=1) (v := .agg #[I c,I d]) rfl (.inl ⟨by rfl,λW hW=>by have z0:=hW.cell c2;have z1:=hW.cell c3;go_simp⟩) d7 inv ?_;intro inv;go_simp;refine Kh (i:=2) rfl (by kernel_rfl) (λK0 hK0 => ?_);go_simp;refine (hN.out _ (HL.out.ext (hX.trans d7))).mono ?_;rintro e w0 ⟨rfl,hF0⟩;have e0:=d7.trans hF0;refine hK0 _ _ e0 ?_;clear hK0;refine Kh (i:=3) rfl (by kernel_rfl) (λK1 hK1 => ?_);go_simp;refine (hA.out _ (HL.out.ext (hX.trans e0))).mono ?_;rintro e w1 ⟨rfl,hF1⟩;have e1:=e0.trans hF1;refine hK1 _ _ e1 ?_;clear hK1;refine Ki (by kernel_rfl) ?_;replace HO:=hid (HO.out.ext e1);replace hX:=hX.trans e1;obtain ⟨q0,q1,f0,f1,r0,r1,hF⟩:=Qj hX hbs2 HO.out (I x) (I y);have Hres:=hid (show YJ w (.agg #[I x,I y]) (.returned (.agg #[I x,I y])) _ from ⟨rfl,hF.out⟩);go_wp2_with fail;refine bodyPost_ret (v := .agg #[I x,I y]) (by simp [results,Tryz.results43,go_sem,r0,r1]) rfl Hres.out
theorem Kql (z:Int):qn z 1=z:=by unfold qn qg;simp
theorem Kqj (z:Int):qd z 1=1:=by unfold qd qg;simp
theorem Kgi (n:Int) (g:Nat):nd (n/(g:Int))<=nd n:=Kpp (Int.natAbs_ediv_le_natAbs n (g:Int))
theorem Kq6 (n d:Int):nd (qn n d)<=nd n:=by
 unfold qn;refine Nat.le_trans (Kgi _ _) ?_;split
 ·rw [Kb4];exact Nat.le_refl _
 ·exact Nat.le_refl _
theorem Kq5 (n d:Int):nd (qd n d)<=nd d:=by
 unfold qd;refine Nat.le_trans (Kgi _ _) ?_;show Lib.nDigits _<=_;rw [Int.natAbs_natCast];exact Nat.le_refl _
def qmk (n d:Int):Int×Int:=(qn n d,qd n d)
def fl (l:List (Value×Value)):List Value:=l.flatMap λp=>[p.1,p.2]
def qv (q:Int×Int):Value×Value:=(I q.1,I q.2)
theorem Jk (p:Value×Value) (l:List (Value×Value)):fl (p::l)=p.1::p.2::fl l:=by simp [fl]
theorem KbY (l:List (Value×Value)):(fl l).length=2*l.length:=by
 induction l with
 | nil=>rfl
 | cons p l ih=>rw [Jk];simp [ih];omega
theorem KiD : ∀(l:List (Value×Value)) (i:Nat) {p:Value×Value},l[i]? = some p->(fl l)[2*i]? = some p.1/\(fl l)[2*i+1]? = some p.2
 | [],i,p,h=>by simp at h
 | x::l,0,p,h=>by
  simp at h;subst h
  rw [Jk];exact ⟨rfl,rfl⟩
 | x::l,i+1,p,h=>by
  rw [Jk,show 2*(i+1)=2*i+1+1 by omega];exact KiD l i (by simpa using h)
theorem KiE : ∀(l:List (Value×Value)) (i:Nat) (p:Value×Value),((fl l).set (2*i) p.1).set (2*i+1) p.2=fl (l.set i p)
 | [],i,p=>by simp [fl]
 | x::l,0,p=>by simp [Jk]
 | x::l,i+1,p=>by
  rw [Jk,show 2*(i+1)=2*i+1+1 by omega];simp only [List.set_cons_succ];rw [Jk,KiE l i p]
def FrV (B:Nat) (w:World) (g:Nat) (l:List (Value×Value)):Prop:=Kd 47 B w g (2*l.length) (fl l)
theorem FrV.ext {B:Nat} {w w':World} {g:Nat} {l:List (Value×Value)} (h:FrV B w g l) (hE:Ext w w'):FrV B w' g l:=Kd.ext h hE
theorem FrV.cells {B:Nat} {w:World} {g:Nat} {l:List (Value×Value)} (h:FrV B w g l) {i:Nat} {p:Value×Value} (hi:l[i]? = some p) :
  w.cell? ⟨g,i*2,none⟩=some p.1/\w.cell? ⟨g,i*2+1,none⟩=some p.2:=by
 rw [Nat.mul_comm i 2];obtain ⟨h1,h2⟩:=KiD l i hi;obtain ⟨a1,e1⟩:=List.getElem?_eq_some_iff.1 h1;obtain ⟨a2,e2⟩:=List.getElem?_eq_some_iff.1 h2;exact ⟨by rw [<-e1];exact Kd.cell h a1,by rw [<-e2];exact Kd.cell h a2⟩
theorem FrV.set {B:Nat} {w:World} {g:Nat} {l:List (Value×Value)} (h:FrV B w g l) (i:Nat) (p:Value×Value) :
  FrV B ((w.setCell ⟨g,i*2,none⟩ p.1).setCell ⟨g,i*2+1,none⟩ p.2) g (l.set i p)/\w.grownBy ((w.setCell ⟨g,i*2,none⟩ p.1).setCell ⟨g,i*2+1,none⟩ p.2) (some g) /\
   w.frozen? ⟨g,i*2,none⟩=false/\w.frozen? ⟨g,i*2+1,none⟩=false:=by
 rw [Nat.mul_comm i 2];obtain ⟨h1,g1⟩:=Kd.set h (2*i) p.1;obtain ⟨h2,g2⟩:=h1.set (2*i+1) p.2;refine ⟨?_,Kg g1 g2,Kd.frozen h _,Kd.frozen h _⟩;unfold FrV;rw [KiE] at h2;rw [List.length_set];exact h2
end
section
def qR (r:Rat):Int×Int:=(r.num,(r.den:Int))
theorem Kbt {n d:Int} (hd:d≠0):qmk n d=qR ((n:Rat)/(d:Rat)):=by
 rw [<-Rat.divInt_eq_div];unfold qR qmk qn qd qg;rw [Rat.num_divInt,Rat.den_divInt,if_neg hd];have hg:d.gcd n=Nat.gcd n.natAbs d.natAbs:=by rw [Int.gcd,Nat.gcd_comm]
 rw [hg,Int.natCast_ediv]
 by_cases hs:d<0
 ·rw [if_pos hs,Int.sign_eq_neg_one_of_neg hs,Int.neg_one_mul]
 ·rw [if_neg hs,Int.sign_eq_one_of_pos (by omega),Int.one_mul]
theorem X7 (a:Rat):((a.num:Int):Rat)/(((a.den:Nat):Int):Rat)=a:=by
 rw [<-Rat.divInt_eq_div];exact Rat.num_divInt_den a
theorem KbU (a:Rat):(((a.den:Nat):Int):Rat)≠0:=by
 have:=a.den_pos;exact_mod_cast (show ((a.den:Nat):Int)≠0 by omega)
theorem KdD (a b:Rat):(a.den:Int)*(b.den:Int)≠0:=by
 have:=a.den_pos;have:=b.den_pos;exact Int.mul_ne_zero (by omega) (by omega)
theorem Knh (a b:Rat):qmk ((qR a).1*(qR b).2+(qR b).1*(qR a).2) ((qR a).2*(qR b).2)=qR (a+b):=by
 show qmk (a.num*(b.den:Int)+b.num*(a.den:Int)) ((a.den:Int)*(b.den:Int))=_;rw [Kbt (KdD a b)]
 congr 1
 have e1:=X7 a;have e2:=X7 b;have h1:=KbU a;have h2:=KbU b;simp only [Rat.intCast_mul,Rat.intCast_add];generalize ((a.den:Int):Rat)=da at *;generalize ((b.den:Int):Rat)=db at *;generalize ((a.num:Int):Rat)=na at *;generalize ((b.num:Int):Rat)=nb at *
 grind
theorem Knk (a b:Rat):qmk ((qR a).1*(qR b).1) ((qR a).2*(qR b).2)=qR (a*b):=by
 show qmk (a.num*b.num) ((a.den:Int)*(b.den:Int))=_;rw [Kbt (KdD a b)]
 congr 1
 have e1:=X7 a;have e2:=X7 b;have h1:=KbU a;have h2:=KbU b;simp only [Rat.intCast_mul];generalize ((a.den:Int):Rat)=da at *;generalize ((b.den:Int):Rat)=db at *;generalize ((a.num:Int):Rat)=na at *;generalize ((b.num:Int):Rat)=nb at *
 grind
def QL (f:Nat->Rat):Nat->Rat
 | 0=>0
 | n+1=>QL f n+f n
def KqN (l:List (List Rat)) (fs:List Rat) (c k:Nat):Rat:=(l.getD k []).getD c 0*fs.getD k 0
def KqO (l:List (List Rat)) (fs:List Rat) (n:Nat):List Rat:=(List.range n).map λc=>QL (KqN l fs c) l.length
def Kpj (l:List (List Rat)) (fs:List Rat) (n k i:Nat):List Rat:=(List.range n).map λc=>QL (KqN l fs c) (if c<i then k+1 else k)
@[simp] theorem Kpi (l:List (List Rat)) (fs:List Rat) (n:Nat):(KqO l fs n).length=n:=by simp [KqO]
@[simp] theorem Kob (l:List (List Rat)) (fs:List Rat) (n k i:Nat):(Kpj l fs n k i).length=n:=by simp [Kpj]
theorem Qt {f g:Nat->Rat} : ∀n,(∀k,k<n->f k=g k)->QL f n=QL g n
 | 0,_=>rfl
 | n+1,h=>by rw [QL,QL,Qt n λk hk=>h k (by omega),h n (by omega)]
end
end Go.Proofs.YtdmaofimeknkbaaGreatDoor
