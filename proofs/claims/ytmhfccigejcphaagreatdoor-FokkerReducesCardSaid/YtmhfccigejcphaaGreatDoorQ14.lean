/- Part 14 of the proof of the claim: contracts of the functions that it reaches, and plain laws; no condition. -/
import Derived.Test.YtmhfccigejcphaaGreatDoorQ13
import Derived.Test.YtmhfccigejcphaaGreatDoorQ11
import Derived.Laws.CopyRow
import Derived.Test.YtmhfccigejcphaaGreatDoorQ09
set_option maxRecDepth 100000
set_option maxHeartbeats 20000000
namespace Go.Proofs.YtmhfccigejcphaaGreatDoor
section
open Go.RowKit Go.Sort
open Lib (hid)
theorem Ki5 (a c:Int):qn (a*1+c*1) (1*1)=a+c/\qd (a*1+c*1) (1*1)=1:=by
 unfold qn qd qg;simp
theorem Kma {a c:Int} (ha:nd a<=100000000) (hc:nd c<=100000000) {w:World} (hL:Laid w) :
  Calls Tryz.prog 82 #[.agg #[I a,I 1],.agg #[I c,I 1]] w λe w'=>e = .returned (.agg #[I (a+c),I 1])/\Ext w w':=by
 have HL:=hid hL;have hadd:=hid (λw hL=>KfB (a:=a) (b:=c) (w:=w) (by unfold LIM;omega) (by unfold LIM;omega) hL);obtain ⟨x,hx⟩ : ∃x,x=a+c:=⟨_,rfl⟩
 rw [<-hx] at hadd ⊢;have hb1:=Kag 1;rw [decide_eq_true rfl] at hb1;have HI1:=hid (show I 1 = .string ⟨#[49]⟩ by unfold I S;rw [Yk]);obtain ⟨X,hXe,hX,c0,c1,c2,c3,hO⟩:=YV w 84 (I a) (I 1) (I c) (I 1) (.string ⟨#[]⟩) (.string ⟨#[]⟩);have HO:=hid hO;obtain ⟨bs,hbs⟩ : ∃bs,bs=w.heap.size:=⟨_,rfl⟩
 have hsz:=hX.size;clear hO hx ha hc hL
 go_enter Tryz.func82,Tryz.ntmps82
 go_wp2_with fail;rw [<-hbs] at c0 c1 c2 c3 HO ⊢;have hbs2:w.heap.size<=bs+1+1:=by omega
 clear hXe hbs;refine (hadd.out _ (HL.out.ext hX)).mono ?_;rintro e w1 ⟨rfl,hE1⟩;replace c0:=hE1.cell c0;replace c1:=hE1.cell c1;replace c2:=hE1.cell c2;replace c3:=hE1.cell c3;replace HO:=hid (HO.out.ext hE1);replace hX:=hX.trans hE1;clear hE1;obtain ⟨q0,q1,f0,f1,r0,r1,hF⟩:=Qk hX hbs2 HO.out (I x) (.string ⟨#[49]⟩);have Hres:=hid (show YM w (.agg #[I x,I 1]) (.returned (.agg #[I x,.string ⟨#[49]⟩])) _ from ⟨by rw [HI1.out],hF.out⟩);go_wp2_with fail;refine bodyPost_ret (v := .agg #[I x,.string ⟨#[49]⟩]) (by simp [results,Tryz.results82,go_sem,r0,r1]) rfl Hres.out
theorem KgO {a b c d:Int} (ha:nd a<=100000000) (hb:nd b<=100000000) (hc:nd c<=100000000) (hd:nd d<=100000000) (hb0:0<b) (hd0:0<d) {w:World} (hL:Laid w) :
  Calls Tryz.prog 82 #[.agg #[I a,I b],.agg #[I c,I d]] w λe w'=>e = .returned (.agg #[I (qn (a*d+c*b) (b*d)),I (qd (a*d+c*b) (b*d))])/\Ext w w':=by
 by_cases h11:b=1/\d=1
 ·obtain ⟨rfl,rfl⟩:=h11;rw [(Ki5 a c).1,(Ki5 a c).2];exact Kma ha hc hL
 have HL:=hid hL;have n1:=QF a d;have n2:=QF c b;have n3:=QF b d;have n4:=KaK (a*d) (c*b);have hbd:0<b*d:=Int.mul_pos hb0 hd0;have hl:=hid (λw hL=>YA (n:=a*d+c*b) (d:=b*d) (w:=w) (by unfold LIM;omega) (by unfold LIM;omega) (by omega) hL);have hm1:=hid (λw hL=>Zk (a:=a) (b:=d) (w:=w) (by unfold LIM;omega) hL);have hm2:=hid (λw hL=>Zk (a:=c) (b:=b) (w:=w) (by unfold LIM;omega) hL);have hm3:=hid (λw hL=>Zk (a:=b) (b:=d) (w:=w) (by unfold LIM;omega) hL);have hadd:=hid (λw hL=>KfB (a:=a*d) (b:=c*b) (w:=w) (by unfold LIM;omega) (by unfold LIM;omega) hL);have hb1:=hid (XY (a:=a) (b:=b) (by unfold LIM;omega) (by unfold LIM;omega));have hb2:=hid (XY (a:=c) (b:=d) (by unfold LIM;omega) (by unfold LIM;omega))
 have HP:=hid (λ(h1:(Km 9 a&&Km 9 b)=true) (h2:(Km 9 c&&Km 9 d)=true)=>(show (a*d).natAbs<=1000000000000000000/\(c*b).natAbs<=1000000000000000000/\(b*d).natAbs<=1000000000000000000 from by
  simp only [Bool.and_eq_true] at h1 h2;have f1:=QJ h1.1;have f2:=QJ h2.1
  have f3:=QJ h1.2;have f4:=QJ h2.2
  have g1:=Nat.mul_le_mul (Nat.le_of_lt f1) (Nat.le_of_lt f4);rw [<-Int.natAbs_mul] at g1
  have g2:=Nat.mul_le_mul (Nat.le_of_lt f2) (Nat.le_of_lt f3);rw [<-Int.natAbs_mul] at g2
  have g3:=Nat.mul_le_mul (Nat.le_of_lt f3) (Nat.le_of_lt f4);rw [<-Int.natAbs_mul] at g3
  exact ⟨by omega,by omega,by omega⟩))
 have Hof:=hid (λ(h1:(Km 9 a&&Km 9 b)=true) (h2:(Km 9 c&&Km 9 d)=true) w hL=>Kjs (n:=a*d+c*b) (d:=b*d) (by
  have:=HP.out h1 h2;omega) (by
  have:=HP.out h1 h2;omega) (w:=w) hL)
 have Hw:=hid (λ(h1:(Km 9 a&&Km 9 b)=true) (h2:(Km 9 c&&Km 9 d)=true)=>(show IntKind.i64.wrap (a*d)=a*d/\IntKind.i64.wrap (c*b)=c*b/\IntKind.i64.wrap (a*d+c*b)=a*d+c*b/\IntKind.i64.wrap (b*d)=b*d from by
  have:=HP.out h1 h2
  exact ⟨IntWalk.i64_in _ (by omega),IntWalk.i64_in _ (by omega),IntWalk.i64_in _ (by omega),IntWalk.i64_in _ (by omega)⟩))
 obtain ⟨x,hx⟩ : ∃x,x=qn (a*d+c*b) (b*d):=⟨_,rfl⟩
 obtain ⟨y,hy⟩ : ∃y,y=qd (a*d+c*b) (b*d):=⟨_,rfl⟩
 rw [<-hx,<-hy] at hl ⊢;rw [<-hx,<-hy] at Hof;have v1:Km 9 a=true->(if Km 9 a=true then a else 0)=a:=λh=>if_pos h
 have v2:Km 9 b=true->(if Km 9 b=true then b else 0)=b:=λh=>if_pos h
 have v3:Km 9 c=true->(if Km 9 c=true then c else 0)=c:=λh=>if_pos h
 have v4:Km 9 d=true->(if Km 9 d=true then d else 0)=d:=λh=>if_pos h
 have hq1:=Kag b;have hq2:=Kag d;have H11:=hid h11;clear hx hy n1 n2 n3 n4 hbd ha hb hc hd hb0 hd0 hL HP h11;obtain ⟨X,hXe,hX,c0,c1,c2,c3,hO⟩:=YV w 84 (I a) (I b) (I c) (I d) (.string ⟨#[]⟩) (.string ⟨#[]⟩);have HO:=hid hO;obtain ⟨bs,hbs⟩ : ∃bs,bs=w.heap.size:=⟨_,rfl⟩
 have hsz:=hX.size;clear hO
 by_cases hb1':b=1
 ·have hd1' : ¬d=1:=λh=>H11.out ⟨hb1',h⟩
  rw [decide_eq_true hb1'] at hq1;rw [decide_eq_false hd1'] at hq2;clear hb1' hd1' H11
  cases h1:(Km 9 a&&Km 9 b)
  ·rw [h1] at hb1;generalize (if Km 9 a=true then a else 0)=a' at *;generalize (if Km 9 b=true then b else 0)=b' at *;clear Hof Hw h1 v1 v2 v3 v4 hb2
   go_enter Tryz.func82,Tryz.ntmps82
   go_wp2_with fail;rw [<-hbs] at c0 c1 c2 c3 HO ⊢;have hbs2:w.heap.size<=bs+1+1:=by omega
   clear hXe hbs;refine (hb1.out _).mono ?_;rintro e w1 ⟨rfl,hE1⟩;replace c0:=hE1.cell c0;replace c1:=hE1.cell c1;replace c2:=hE1.cell c2;replace c3:=hE1.cell c3;replace HO:=hid (HO.out.ext hE1);replace hX:=hX.trans hE1;clear hE1;go_wp2_with fail;generalize w1=X at *;have d7:Ext X X.drew:=(Ext.refl X).drew;refine Kf (S:=λW=>Ext X W) 17 (by kernel_rfl) (by simp) ?_;intro inv;refine tkS (i:=0) (v := .pointer (some ⟨bs,0,none⟩)) rfl d7 inv ?_;intro inv;go_simp;refine tkA (i:=1) (v:=I a) rfl (.inl ⟨by rfl,λW hW=>by have z0:=hW.cell c0;go_simp⟩) d7 inv ?_;intro inv;go_simp;refine tkS (i:=2) (v := .pointer (some ⟨bs+1,1,none⟩)) rfl d7 inv ?_;intro inv;go_simp;refine tkA (i:=3) (v:=I d) rfl (.inl ⟨by rfl,λW hW=>by have z0:=hW.cell c3;go_simp⟩) d7 inv ?_;intro inv;go_simp;refine tkS (i:=5) (v := .pointer (some ⟨bs+1,0,none⟩)) rfl d7 inv ?_;intro inv;go_simp;refine tkA (i:=6) (v:=I c) rfl (.inl ⟨by rfl,λW hW=>by have z0:=hW.cell c2;go_simp⟩) d7 inv ?_;intro inv;go_simp;refine tkS (i:=7) (v := .pointer (some ⟨bs,1,none⟩)) rfl d7 inv ?_;intro inv;go_simp;refine tkA (i:=8) (v:=I b) rfl (.inl ⟨by rfl,λW hW=>by have z0:=hW.cell c1;go_simp⟩) d7 inv ?_;intro inv;go_simp;refine tkS (i:=11) (v := .pointer (some ⟨bs,1,none⟩)) rfl d7 inv ?_;intro inv;go_simp;refine tkA (i:=12) (v:=I b) rfl (.inl ⟨by rfl,λW hW=>by have z0:=hW.cell c1;go_simp⟩) d7 inv ?_;intro inv;go_simp;refine tkS (i:=13) (v := .pointer (some ⟨bs+1,1,none⟩)) rfl d7 inv ?_;intro inv;go_simp
   refine tkA (i:=14) (v:=I d) rfl (.inl ⟨by rfl,λW hW=>by have z0:=hW.cell c3;go_simp⟩) d7 inv ?_;intro inv;go_simp;refine Ki (i:=4) rfl (by kernel_rfl) (λK0 hK0 => ?_);go_simp;refine (hm1.out _ (HL.out.ext (hX.trans d7))).mono ?_;rintro e w0 ⟨rfl,hF0⟩;have e0:=d7.trans hF0;refine hK0 _ _ e0 ?_;clear hK0;refine Ki (i:=9) rfl (by kernel_rfl) (λK1 hK1 => ?_);go_simp;refine (hm2.out _ (HL.out.ext (hX.trans e0))).mono ?_;rintro e w1 ⟨rfl,hF1⟩;have e1:=e0.trans hF1;refine hK1 _ _ e1 ?_;clear hK1;refine Ki (i:=10) rfl (by kernel_rfl) (λK2 hK2 => ?_);go_simp;refine (hadd.out _ (HL.out.ext (hX.trans e1))).mono ?_;rintro e w2 ⟨rfl,hF2⟩;have e2:=e1.trans hF2;refine hK2 _ _ e2 ?_;clear hK2;refine Ki (i:=15) rfl (by kernel_rfl) (λK3 hK3 => ?_);go_simp;refine (hm3.out _ (HL.out.ext (hX.trans e2))).mono ?_;rintro e w3 ⟨rfl,hF3⟩;have e3:=e2.trans hF3;refine hK3 _ _ e3 ?_;clear hK3;refine Ki (i:=16) rfl (by kernel_rfl) (λK4 hK4 => ?_);go_simp;refine (hl.out _ (HL.out.ext (hX.trans e3))).mono ?_;rintro e w4 ⟨rfl,hF4⟩;have e4:=e3.trans hF4;refine hK4 _ _ e4 ?_;clear hK4;refine Kg (by kernel_rfl) ?_;replace HO:=hid (HO.out.ext e4);replace hX:=hX.trans e4;obtain ⟨q0,q1,f0,f1,r0,r1,hF⟩:=Qk hX hbs2 HO.out (I x) (I y);have Hres:=hid (show YM w (.agg #[I x,I y]) (.returned (.agg #[I x,I y])) _ from ⟨rfl,hF.out⟩);go_wp2_with fail
   refine bodyPost_ret (v := .agg #[I x,I y]) (by simp [results,Tryz.results82,go_sem,r0,r1]) rfl Hres.out
  ·rw [h1] at hb1
   cases h2:(Km 9 c&&Km 9 d)
   ·rw [h2] at hb2;generalize (if Km 9 a=true then a else 0)=a' at *;generalize (if Km 9 b=true then b else 0)=b' at *;generalize (if Km 9 c=true then c else 0)=c' at *;generalize (if Km 9 d=true then d else 0)=d' at *;clear Hof Hw h1 h2 v1 v2 v3 v4
    go_enter Tryz.func82,Tryz.ntmps82
    go_wp2_with fail;rw [<-hbs] at c0 c1 c2 c3 HO ⊢;have hbs2:w.heap.size<=bs+1+1:=by omega
    clear hXe hbs;refine (hb1.out _).mono ?_;rintro e w1 ⟨rfl,hE1⟩;replace c0:=hE1.cell c0;replace c1:=hE1.cell c1;replace c2:=hE1.cell c2;replace c3:=hE1.cell c3;replace HO:=hid (HO.out.ext hE1);replace hX:=hX.trans hE1;clear hE1;go_wp2_with fail;refine (hb2.out _).mono ?_;rintro e w2 ⟨rfl,hE1⟩;replace c0:=hE1.cell c0;replace c1:=hE1.cell c1;replace c2:=hE1.cell c2;replace c3:=hE1.cell c3;replace HO:=hid (HO.out.ext hE1);replace hX:=hX.trans hE1;clear hE1;go_wp2_with fail;generalize w2=X at *;have d7:Ext X X.drew:=(Ext.refl X).drew;refine Kf (S:=λW=>Ext X W) 17 (by kernel_rfl) (by simp) ?_;intro inv;refine tkS (i:=0) (v := .pointer (some ⟨bs,0,none⟩)) rfl d7 inv ?_;intro inv;go_simp;refine tkA (i:=1) (v:=I a) rfl (.inl ⟨by rfl,λW hW=>by have z0:=hW.cell c0;go_simp⟩) d7 inv ?_;intro inv;go_simp;refine tkS (i:=2) (v := .pointer (some ⟨bs+1,1,none⟩)) rfl d7 inv ?_;intro inv;go_simp;refine tkA (i:=3) (v:=I d) rfl (.inl ⟨by rfl,λW hW=>by have z0:=hW.cell c3;go_simp⟩) d7 inv ?_;intro inv;go_simp;refine tkS (i:=5) (v := .pointer (some ⟨bs+1,0,none⟩)) rfl d7 inv ?_;intro inv;go_simp;refine tkA (i:=6) (v:=I c) rfl (.inl ⟨by rfl,λW hW=>by have z0:=hW.cell c2;go_simp⟩) d7 inv ?_;intro inv;go_simp;refine tkS (i:=7) (v := .pointer (some ⟨bs,1,none⟩)) rfl d7 inv ?_;intro inv;go_simp;refine tkA (i:=8) (v:=I b) rfl (.inl ⟨by rfl,λW hW=>by have z0:=hW.cell c1;go_simp⟩) d7 inv ?_;intro inv;go_simp
    refine tkS (i:=11) (v := .pointer (some ⟨bs,1,none⟩)) rfl d7 inv ?_;intro inv;go_simp;refine tkA (i:=12) (v:=I b) rfl (.inl ⟨by rfl,λW hW=>by have z0:=hW.cell c1;go_simp⟩) d7 inv ?_;intro inv;go_simp;refine tkS (i:=13) (v := .pointer (some ⟨bs+1,1,none⟩)) rfl d7 inv ?_;intro inv;go_simp;refine tkA (i:=14) (v:=I d) rfl (.inl ⟨by rfl,λW hW=>by have z0:=hW.cell c3;go_simp⟩) d7 inv ?_;intro inv;go_simp;refine Ki (i:=4) rfl (by kernel_rfl) (λK0 hK0 => ?_);go_simp;refine (hm1.out _ (HL.out.ext (hX.trans d7))).mono ?_;rintro e w0 ⟨rfl,hF0⟩;have e0:=d7.trans hF0;refine hK0 _ _ e0 ?_;clear hK0;refine Ki (i:=9) rfl (by kernel_rfl) (λK1 hK1 => ?_);go_simp;refine (hm2.out _ (HL.out.ext (hX.trans e0))).mono ?_;rintro e w1 ⟨rfl,hF1⟩;have e1:=e0.trans hF1;refine hK1 _ _ e1 ?_;clear hK1;refine Ki (i:=10) rfl (by kernel_rfl) (λK2 hK2 => ?_);go_simp;refine (hadd.out _ (HL.out.ext (hX.trans e1))).mono ?_;rintro e w2 ⟨rfl,hF2⟩;have e2:=e1.trans hF2;refine hK2 _ _ e2 ?_;clear hK2;refine Ki (i:=15) rfl (by kernel_rfl) (λK3 hK3 => ?_);go_simp;refine (hm3.out _ (HL.out.ext (hX.trans e2))).mono ?_;rintro e w3 ⟨rfl,hF3⟩;have e3:=e2.trans hF3;refine hK3 _ _ e3 ?_;clear hK3;refine Ki (i:=16) rfl (by kernel_rfl) (λK4 hK4 => ?_);go_simp;refine (hl.out _ (HL.out.ext (hX.trans e3))).mono ?_;rintro e w4 ⟨rfl,hF4⟩;have e4:=e3.trans hF4;refine hK4 _ _ e4 ?_;clear hK4;refine Kg (by kernel_rfl) ?_;replace HO:=hid (HO.out.ext e4)
    replace hX:=hX.trans e4;obtain ⟨q0,q1,f0,f1,r0,r1,hF⟩:=Qk hX hbs2 HO.out (I x) (I y);have Hres:=hid (show YM w (.agg #[I x,I y]) (.returned (.agg #[I x,I y])) _ from ⟨rfl,hF.out⟩);go_wp2_with fail;refine bodyPost_ret (v := .agg #[I x,I y]) (by simp [results,Tryz.results82,go_sem,r0,r1]) rfl Hres.out
   ·rw [h2] at hb2;obtain ⟨hw1,hw2,hw3,hw4⟩:=Hw.out h1 h2;have hof:=hid (Hof.out h1 h2);simp only [Bool.and_eq_true] at h1 h2;rw [v1 h1.1,v2 h1.2] at hb1;rw [v3 h2.1,v4 h2.2] at hb2;clear Hof Hw h1 h2 v1 v2 v3 v4
    go_enter Tryz.func82,Tryz.ntmps82
    go_wp2_with fail;rw [<-hbs] at c0 c1 c2 c3 HO ⊢;have hbs2:w.heap.size<=bs+1+1:=by omega
    clear hXe hbs;refine (hb1.out _).mono ?_;rintro e w1 ⟨rfl,hE1⟩;replace c0:=hE1.cell c0;replace c1:=hE1.cell c1;replace c2:=hE1.cell c2;replace c3:=hE1.cell c3;replace HO:=hid (HO.out.ext hE1);replace hX:=hX.trans hE1;clear hE1;go_wp2_with fail;refine (hb2.out _).mono ?_;rintro e w2 ⟨rfl,hE1⟩;replace c0:=hE1.cell c0;replace c1:=hE1.cell c1;replace c2:=hE1.cell c2;replace c3:=hE1.cell c3;replace HO:=hid (HO.out.ext hE1);replace hX:=hX.trans hE1;clear hE1;go_wp2_with fail;refine (hof.out _ (HL.out.ext hX)).mono ?_;rintro e w3 ⟨rfl,hE1⟩;replace c0:=hE1.cell c0;replace c1:=hE1.cell c1;replace c2:=hE1.cell c2;replace c3:=hE1.cell c3;replace HO:=hid (HO.out.ext hE1);replace hX:=hX.trans hE1;clear hE1;obtain ⟨q0,q1,f0,f1,r0,r1,hF⟩:=Qk hX hbs2 HO.out (I x) (I y);have Hres:=hid (show YM w (.agg #[I x,I y]) (.returned (.agg #[I x,I y])) _ from ⟨rfl,hF.out⟩);go_wp2_with fail;refine bodyPost_ret (v := .agg #[I x,I y]) (by simp [results,Tryz.results82,go_sem,r0,r1]) rfl Hres.out
 ·rw [decide_eq_false hb1'] at hq1;clear hb1' H11 hq2
  cases h1:(Km 9 a&&Km 9 b)
  ·rw [h1] at hb1;generalize (if Km 9 a=true then a else 0)=a' at *;generalize (if Km 9 b=true then b else 0)=b' at *;clear Hof Hw h1 v1 v2 v3 v4 hb2
   go_enter Tryz.func82,Tryz.ntmps82
   go_wp2_with fail;rw [<-hbs] at c0 c1 c2 c3 HO ⊢;have hbs2:w.heap.size<=bs+1+1:=by omega
   clear hXe hbs;refine (hb1.out _).mono ?_;rintro e w1 ⟨rfl,hE1⟩;replace c0:=hE1.cell c0;replace c1:=hE1.cell c1;replace c2:=hE1.cell c2;replace c3:=hE1.cell c3;replace HO:=hid (HO.out.ext hE1);replace hX:=hX.trans hE1;clear hE1;go_wp2_with fail;generalize w1=X at *;have d7:Ext X X.drew:=(Ext.refl X).drew;refine Kf (S:=λW=>Ext X W) 17 (by kernel_rfl) (by simp) ?_;intro inv;refine tkS (i:=0) (v := .pointer (some ⟨bs,0,none⟩)) rfl d7 inv ?_;intro inv;go_simp;refine tkA (i:=1) (v:=I a) rfl (.inl ⟨by rfl,λW hW=>by have z0:=hW.cell c0;go_simp⟩) d7 inv ?_;intro inv;go_simp;refine tkS (i:=2) (v := .pointer (some ⟨bs+1,1,none⟩)) rfl d7 inv ?_;intro inv;go_simp;refine tkA (i:=3) (v:=I d) rfl (.inl ⟨by rfl,λW hW=>by have z0:=hW.cell c3;go_simp⟩) d7 inv ?_;intro inv;go_simp;refine tkS (i:=5) (v := .pointer (some ⟨bs+1,0,none⟩)) rfl d7 inv ?_;intro inv;go_simp;refine tkA (i:=6) (v:=I c) rfl (.inl ⟨by rfl,λW hW=>by have z0:=hW.cell c2;go_simp⟩) d7 inv ?_;intro inv;go_simp;refine tkS (i:=7) (v := .pointer (some ⟨bs,1,none⟩)) rfl d7 inv ?_;intro inv;go_simp;refine tkA (i:=8) (v:=I b) rfl (.inl ⟨by rfl,λW hW=>by have z0:=hW.cell c1;go_simp⟩) d7 inv ?_;intro inv;go_simp;refine tkS (i:=11) (v := .pointer (some ⟨bs,1,none⟩)) rfl d7 inv ?_;intro inv;go_simp;refine tkA (i:=12) (v:=I b) rfl (.inl ⟨by rfl,λW hW=>by have z0:=hW.cell c1;go_simp⟩) d7 inv ?_;intro inv;go_simp;refine tkS (i:=13) (v := .pointer (some ⟨bs+1,1,none⟩)) rfl d7 inv ?_;intro inv;go_simp
   refine tkA (i:=14) (v:=I d) rfl (.inl ⟨by rfl,λW hW=>by have z0:=hW.cell c3;go_simp⟩) d7 inv ?_;intro inv;go_simp;refine Ki (i:=4) rfl (by kernel_rfl) (λK0 hK0 => ?_);go_simp;refine (hm1.out _ (HL.out.ext (hX.trans d7))).mono ?_;rintro e w0 ⟨rfl,hF0⟩;have e0:=d7.trans hF0;refine hK0 _ _ e0 ?_;clear hK0;refine Ki (i:=9) rfl (by kernel_rfl) (λK1 hK1 => ?_);go_simp;refine (hm2.out _ (HL.out.ext (hX.trans e0))).mono ?_;rintro e w1 ⟨rfl,hF1⟩;have e1:=e0.trans hF1;refine hK1 _ _ e1 ?_;clear hK1;refine Ki (i:=10) rfl (by kernel_rfl) (λK2 hK2 => ?_);go_simp;refine (hadd.out _ (HL.out.ext (hX.trans e1))).mono ?_;rintro e w2 ⟨rfl,hF2⟩;have e2:=e1.trans hF2;refine hK2 _ _ e2 ?_;clear hK2;refine Ki (i:=15) rfl (by kernel_rfl) (λK3 hK3 => ?_);go_simp;refine (hm3.out _ (HL.out.ext (hX.trans e2))).mono ?_;rintro e w3 ⟨rfl,hF3⟩;have e3:=e2.trans hF3;refine hK3 _ _ e3 ?_;clear hK3;refine Ki (i:=16) rfl (by kernel_rfl) (λK4 hK4 => ?_);go_simp;refine (hl.out _ (HL.out.ext (hX.trans e3))).mono ?_;rintro e w4 ⟨rfl,hF4⟩;have e4:=e3.trans hF4;refine hK4 _ _ e4 ?_;clear hK4;refine Kg (by kernel_rfl) ?_;replace HO:=hid (HO.out.ext e4);replace hX:=hX.trans e4;obtain ⟨q0,q1,f0,f1,r0,r1,hF⟩:=Qk hX hbs2 HO.out (I x) (I y);have Hres:=hid (show YM w (.agg #[I x,I y]) (.returned (.agg #[I x,I y])) _ from ⟨rfl,hF.out⟩);go_wp2_with fail
   refine bodyPost_ret (v := .agg #[I x,I y]) (by simp [results,Tryz.results82,go_sem,r0,r1]) rfl Hres.out
  ·rw [h1] at hb1
   cases h2:(Km 9 c&&Km 9 d)
   ·rw [h2] at hb2;generalize (if Km 9 a=true then a else 0)=a' at *;generalize (if Km 9 b=true then b else 0)=b' at *;generalize (if Km 9 c=true then c else 0)=c' at *;generalize (if Km 9 d=true then d else 0)=d' at *;clear Hof Hw h1 h2 v1 v2 v3 v4
    go_enter Tryz.func82,Tryz.ntmps82
    go_wp2_with fail;rw [<-hbs] at c0 c1 c2 c3 HO ⊢;have hbs2:w.heap.size<=bs+1+1:=by omega
    clear hXe hbs;refine (hb1.out _).mono ?_;rintro e w1 ⟨rfl,hE1⟩;replace c0:=hE1.cell c0;replace c1:=hE1.cell c1;replace c2:=hE1.cell c2;replace c3:=hE1.cell c3;replace HO:=hid (HO.out.ext hE1);replace hX:=hX.trans hE1;clear hE1;go_wp2_with fail;refine (hb2.out _).mono ?_;rintro e w2 ⟨rfl,hE1⟩;replace c0:=hE1.cell c0;replace c1:=hE1.cell c1;replace c2:=hE1.cell c2;replace c3:=hE1.cell c3;replace HO:=hid (HO.out.ext hE1);replace hX:=hX.trans hE1;clear hE1;go_wp2_with fail;generalize w2=X at *;have d7:Ext X X.drew:=(Ext.refl X).drew;refine Kf (S:=λW=>Ext X W) 17 (by kernel_rfl) (by simp) ?_;intro inv;refine tkS (i:=0) (v := .pointer (some ⟨bs,0,none⟩)) rfl d7 inv ?_;intro inv;go_simp;refine tkA (i:=1) (v:=I a) rfl (.inl ⟨by rfl,λW hW=>by have z0:=hW.cell c0;go_simp⟩) d7 inv ?_;intro inv;go_simp;refine tkS (i:=2) (v := .pointer (some ⟨bs+1,1,none⟩)) rfl d7 inv ?_;intro inv;go_simp;refine tkA (i:=3) (v:=I d) rfl (.inl ⟨by rfl,λW hW=>by have z0:=hW.cell c3;go_simp⟩) d7 inv ?_;intro inv;go_simp;refine tkS (i:=5) (v := .pointer (some ⟨bs+1,0,none⟩)) rfl d7 inv ?_;intro inv;go_simp;refine tkA (i:=6) (v:=I c) rfl (.inl ⟨by rfl,λW hW=>by have z0:=hW.cell c2;go_simp⟩) d7 inv ?_;intro inv;go_simp;refine tkS (i:=7) (v := .pointer (some ⟨bs,1,none⟩)) rfl d7 inv ?_;intro inv;go_simp;refine tkA (i:=8) (v:=I b) rfl (.inl ⟨by rfl,λW hW=>by have z0:=hW.cell c1;go_simp⟩) d7 inv ?_;intro inv;go_simp
    refine tkS (i:=11) (v := .pointer (some ⟨bs,1,none⟩)) rfl d7 inv ?_;intro inv;go_simp;refine tkA (i:=12) (v:=I b) rfl (.inl ⟨by rfl,λW hW=>by have z0:=hW.cell c1;go_simp⟩) d7 inv ?_;intro inv;go_simp;refine tkS (i:=13) (v := .pointer (some ⟨bs+1,1,none⟩)) rfl d7 inv ?_;intro inv;go_simp;refine tkA (i:=14) (v:=I d) rfl (.inl ⟨by rfl,λW hW=>by have z0:=hW.cell c3;go_simp⟩) d7 inv ?_;intro inv;go_simp;refine Ki (i:=4) rfl (by kernel_rfl) (λK0 hK0 => ?_);go_simp;refine (hm1.out _ (HL.out.ext (hX.trans d7))).mono ?_;rintro e w0 ⟨rfl,hF0⟩;have e0:=d7.trans hF0;refine hK0 _ _ e0 ?_;clear hK0;refine Ki (i:=9) rfl (by kernel_rfl) (λK1 hK1 => ?_);go_simp;refine (hm2.out _ (HL.out.ext (hX.trans e0))).mono ?_;rintro e w1 ⟨rfl,hF1⟩;have e1:=e0.trans hF1;refine hK1 _ _ e1 ?_;clear hK1;refine Ki (i:=10) rfl (by kernel_rfl) (λK2 hK2 => ?_);go_simp;refine (hadd.out _ (HL.out.ext (hX.trans e1))).mono ?_;rintro e w2 ⟨rfl,hF2⟩;have e2:=e1.trans hF2;refine hK2 _ _ e2 ?_;clear hK2;refine Ki (i:=15) rfl (by kernel_rfl) (λK3 hK3 => ?_);go_simp;refine (hm3.out _ (HL.out.ext (hX.trans e2))).mono ?_;rintro e w3 ⟨rfl,hF3⟩;have e3:=e2.trans hF3;refine hK3 _ _ e3 ?_;clear hK3;refine Ki (i:=16) rfl (by kernel_rfl) (λK4 hK4 => ?_);go_simp;refine (hl.out _ (HL.out.ext (hX.trans e3))).mono ?_;rintro e w4 ⟨rfl,hF4⟩;have e4:=e3.trans hF4;refine hK4 _ _ e4 ?_;clear hK4;refine Kg (by kernel_rfl) ?_;replace HO:=hid (HO.out.ext e4)
    replace hX:=hX.trans e4;obtain ⟨q0,q1,f0,f1,r0,r1,hF⟩:=Qk hX hbs2 HO.out (I x) (I y);have Hres:=hid (show YM w (.agg #[I x,I y]) (.returned (.agg #[I x,I y])) _ from ⟨rfl,hF.out⟩);go_wp2_with fail;refine bodyPost_ret (v := .agg #[I x,I y]) (by simp [results,Tryz.results82,go_sem,r0,r1]) rfl Hres.out
   ·rw [h2] at hb2;obtain ⟨hw1,hw2,hw3,hw4⟩:=Hw.out h1 h2;have hof:=hid (Hof.out h1 h2);simp only [Bool.and_eq_true] at h1 h2;rw [v1 h1.1,v2 h1.2] at hb1;rw [v3 h2.1,v4 h2.2] at hb2;clear Hof Hw h1 h2 v1 v2 v3 v4
    go_enter Tryz.func82,Tryz.ntmps82
    go_wp2_with fail;rw [<-hbs] at c0 c1 c2 c3 HO ⊢;have hbs2:w.heap.size<=bs+1+1:=by omega
    clear hXe hbs;refine (hb1.out _).mono ?_;rintro e w1 ⟨rfl,hE1⟩;replace c0:=hE1.cell c0;replace c1:=hE1.cell c1;replace c2:=hE1.cell c2;replace c3:=hE1.cell c3;replace HO:=hid (HO.out.ext hE1);replace hX:=hX.trans hE1;clear hE1;go_wp2_with fail;refine (hb2.out _).mono ?_;rintro e w2 ⟨rfl,hE1⟩;replace c0:=hE1.cell c0;replace c1:=hE1.cell c1;replace c2:=hE1.cell c2;replace c3:=hE1.cell c3;replace HO:=hid (HO.out.ext hE1);replace hX:=hX.trans hE1;clear hE1;go_wp2_with fail;refine (hof.out _ (HL.out.ext hX)).mono ?_;rintro e w3 ⟨rfl,hE1⟩;replace c0:=hE1.cell c0;replace c1:=hE1.cell c1;replace c2:=hE1.cell c2;replace c3:=hE1.cell c3;replace HO:=hid (HO.out.ext hE1);replace hX:=hX.trans hE1;clear hE1;obtain ⟨q0,q1,f0,f1,r0,r1,hF⟩:=Qk hX hbs2 HO.out (I x) (I y);have Hres:=hid (show YM w (.agg #[I x,I y]) (.returned (.agg #[I x,I y])) _ from ⟨rfl,hF.out⟩);go_wp2_with fail;refine bodyPost_ret (v := .agg #[I x,I y]) (by simp [results,Tryz.results82,go_sem,r0,r1]) rfl Hres.out
theorem Kmd {a b c d:Int} (ha:nd a<=100000000) (hb:nd b<=100000000) (hc:nd c<=100000000) (hd:nd d<=100000000) (hb0:0<b) (hd0:0<d) {w:World} (hL:Laid w) :
  Calls Tryz.prog 68 #[.agg #[I a,I b],.agg #[I c,I d]] w λe w'=>e = .returned (.agg #[I (qn (a*d-c*b) (b*d)),I (qd (a*d-c*b) (b*d))])/\Ext w w':=by
 have HL:=hid hL;have hN:=hid (λw (_:Laid w)=>KgP (a:=c) (b:=d) (by unfold LIM;omega) w);have hA:=hid (λw hL=>KgO (a:=a) (b:=b) (c := -c) (d:=d) (w:=w) ha hb (by rw [KbQ];exact hc) hd hb0 hd0 hL);rw [show a*d + -c*b=a*d-c*b by rw [Int.neg_mul];omega] at hA;obtain ⟨x,hx⟩ : ∃x,x=qn (a*d-c*b) (b*d):=⟨_,rfl⟩
 obtain ⟨y,hy⟩ : ∃y,y=qd (a*d-c*b) (b*d):=⟨_,rfl⟩
 rw [<-hx,<-hy] at hA ⊢;generalize -c=c' at *;clear hx hy ha hb hc hd hb0 hd0 hL;obtain ⟨X,hXe,hX,c0,c1,c2,c3,hO⟩:=YV w 84 (I a) (I b) (I c) (I d) (.string ⟨#[]⟩) (.string ⟨#[]⟩);have HO:=hid hO;obtain ⟨bs,hbs⟩ : ∃bs,bs=w.heap.size:=⟨_,rfl⟩
 have hsz:=hX.size;clear hO
 go_enter Tryz.func68,Tryz.ntmps68
 go_wp2_with fail;rw [<-hbs] at c0 c1 c2 c3 HO ⊢;have hbs2:w.heap.size<=bs+1+1:=by omega
 clear hXe hbs;have d7:Ext X X.drew:=(Ext.refl X).drew;refine Kf (S:=λW=>Ext X W) 4 (by kernel_rfl) (by simp) ?_;intro inv;refine tkA (i:=0) (v := .agg #[I a,I b]) rfl (.inl ⟨by rfl,λW hW=>by have z0:=hW.cell c0;have z1:=hW.cell c1;go_simp⟩) d7 inv ?_;intro inv;go_simp;refine tkA (i:=1) (v := .agg #[I c,I d]) rfl (.inl ⟨by rfl,λW hW=>by have z0:=hW.cell c2;have z1:=hW.cell c3;go_simp⟩) d7 inv ?_;intro inv;go_simp;refine Ki (i:=2) rfl (by kernel_rfl) (λK0 hK0 => ?_);go_simp;refine (hN.out _ (HL.out.ext (hX.trans d7))).mono ?_;rintro e w0 ⟨rfl,hF0⟩;have e0:=d7.trans hF0;refine hK0 _ _ e0 ?_;clear hK0;refine Ki (i:=3) rfl (by kernel_rfl) (λK1 hK1 => ?_);go_simp;refine (hA.out _ (HL.out.ext (hX.trans e0))).mono ?_;rintro e w1 ⟨rfl,hF1⟩;have e1:=e0.trans hF1;refine hK1 _ _ e1 ?_;clear hK1;refine Kg (by kernel_rfl) ?_;replace HO:=hid (HO.out.ext e1);replace hX:=hX.trans e1;obtain ⟨q0,q1,f0,f1,r0,r1,hF⟩:=Qk hX hbs2 HO.out (I x) (I y);have Hres:=hid (show YM w (.agg #[I x,I y]) (.returned (.agg #[I x,I y])) _ from ⟨rfl,hF.out⟩);go_wp2_with fail;refine bodyPost_ret (v := .agg #[I x,I y]) (by simp [results,Tryz.results68,go_sem,r0,r1]) rfl Hres.out
theorem KpR (z:Int):qn z 1=z:=by unfold qn qg;simp
theorem KpP (z:Int):qd z 1=1:=by unfold qd qg;simp
theorem Kf2 (n:Int) (g:Nat):nd (n/(g:Int))<=nd n:=KoW (Int.natAbs_ediv_le_natAbs n (g:Int))
theorem KqA (n d:Int):nd (qn n d)<=nd n:=by
 unfold qn;refine Nat.le_trans (Kf2 _ _) ?_;split
 ·rw [KbQ];exact Nat.le_refl _
 ·exact Nat.le_refl _
theorem Kqz (n d:Int):nd (qd n d)<=nd d:=by
 unfold qd;refine Nat.le_trans (Kf2 _ _) ?_;show Lib.nDigits _<=_;rw [Int.natAbs_natCast];exact Nat.le_refl _
def qmk (n d:Int):Int×Int:=(qn n d,qd n d)
def fl (l:List (Value×Value)):List Value:=l.flatMap λp=>[p.1,p.2]
def qv (q:Int×Int):Value×Value:=(I q.1,I q.2)
theorem Ka6 (p:Value×Value) (l:List (Value×Value)):fl (p::l)=p.1::p.2::fl l:=by simp [fl]
theorem Kmm : ∀(l:List (Value×Value)) (i:Nat) {p:Value×Value},l[i]? = some p->(fl l)[2*i]? = some p.1/\(fl l)[2*i+1]? = some p.2
 | [],i,p,h=>by simp at h
 | x::l,0,p,h=>by
  simp at h;subst h
  rw [Ka6];exact ⟨rfl,rfl⟩
 | x::l,i+1,p,h=>by
  rw [Ka6,show 2*(i+1)=2*i+1+1 by omega];exact Kmm l i (by simpa using h)
theorem Kmn : ∀(l:List (Value×Value)) (i:Nat) (p:Value×Value),((fl l).set (2*i) p.1).set (2*i+1) p.2=fl (l.set i p)
 | [],i,p=>by simp [fl]
 | x::l,0,p=>by simp [Ka6]
 | x::l,i+1,p=>by
  rw [Ka6,show 2*(i+1)=2*i+1+1 by omega];simp only [List.set_cons_succ];rw [Ka6,Kmn l i p]
end
section
def qR (r:Rat):Int×Int:=(r.num,(r.den:Int))
theorem Kcv {n d:Int} (hd:d≠0):qmk n d=qR ((n:Rat)/(d:Rat)):=by
 rw [<-Rat.divInt_eq_div];unfold qR qmk qn qd qg;rw [Rat.num_divInt,Rat.den_divInt,if_neg hd];have hg:d.gcd n=Nat.gcd n.natAbs d.natAbs:=by rw [Int.gcd,Nat.gcd_comm]
 rw [hg,Int.natCast_ediv]
 by_cases hs:d<0
 ·rw [if_pos hs,Int.sign_eq_neg_one_of_neg hs,Int.neg_one_mul]
 ·rw [if_neg hs,Int.sign_eq_one_of_pos (by omega),Int.one_mul]
theorem X6 (a:Rat):((a.num:Int):Rat)/(((a.den:Nat):Int):Rat)=a:=by
 rw [<-Rat.divInt_eq_div];exact Rat.num_divInt_den a
theorem KbH (a:Rat):(((a.den:Nat):Int):Rat)≠0:=by
 have:=a.den_pos;exact_mod_cast (show ((a.den:Nat):Int)≠0 by omega)
theorem Kdo (a b:Rat):(a.den:Int)*(b.den:Int)≠0:=by
 have:=a.den_pos;have:=b.den_pos;exact Int.mul_ne_zero (by omega) (by omega)
theorem Kiy (a b:Rat):qmk ((qR a).1*(qR b).2+(qR b).1*(qR a).2) ((qR a).2*(qR b).2)=qR (a+b):=by
 show qmk (a.num*(b.den:Int)+b.num*(a.den:Int)) ((a.den:Int)*(b.den:Int))=_;rw [Kcv (Kdo a b)]
 congr 1
 have e1:=X6 a;have e2:=X6 b;have h1:=KbH a;have h2:=KbH b;simp only [Rat.intCast_mul,Rat.intCast_add];generalize ((a.den:Int):Rat)=da at *;generalize ((b.den:Int):Rat)=db at *;generalize ((a.num:Int):Rat)=na at *;generalize ((b.num:Int):Rat)=nb at *
 grind
theorem KmT (a b:Rat):qmk ((qR a).1*(qR b).1) ((qR a).2*(qR b).2)=qR (a*b):=by
 show qmk (a.num*b.num) ((a.den:Int)*(b.den:Int))=_;rw [Kcv (Kdo a b)]
 congr 1
 have e1:=X6 a;have e2:=X6 b;have h1:=KbH a;have h2:=KbH b;simp only [Rat.intCast_mul];generalize ((a.den:Int):Rat)=da at *;generalize ((b.den:Int):Rat)=db at *;generalize ((a.num:Int):Rat)=na at *;generalize ((b.num:Int):Rat)=nb at *
 grind
def QW (f:Nat->Rat):Nat->Rat
 | 0=>0
 | n+1=>QW f n+f n
def Kqh (l:List (List Rat)) (fs:List Rat) (c k:Nat):Rat:=(l.getD k []).getD c 0*fs.getD k 0
def Kqi (l:List (List Rat)) (fs:List Rat) (n:Nat):List Rat:=(List.range n).map λc=>QW (Kqh l fs c) l.length
def KoP (l:List (List Rat)) (fs:List Rat) (n k i:Nat):List Rat:=(List.range n).map λc=>QW (Kqh l fs c) (if c<i then k+1 else k)
@[simp] theorem KoO (l:List (List Rat)) (fs:List Rat) (n:Nat):(Kqi l fs n).length=n:=by simp [Kqi]
@[simp] theorem KnM (l:List (List Rat)) (fs:List Rat) (n k i:Nat):(KoP l fs n k i).length=n:=by simp [KoP]
theorem QS {f g:Nat->Rat} : ∀n,(∀k,k<n->f k=g k)->QW f n=QW g n
 | 0,_=>rfl
 | n+1,h=>by rw [QW,QW,QS n λk hk=>h k (by omega),h n (by omega)]
end
section
open Go.RowKit Go.Sort
theorem Tryz.infoRat:(Tryz.prog.info? 84).map (λi=>(i.zero,i.size,i.bytes))=some (some (.agg #[.string ⟨#[]⟩,.string ⟨#[]⟩]),2,32):=by kernel_rfl
def szc (l:List Rat):List Value:=fl (l.map λr=>qv (qR r))
theorem Kkv (a b:List (Value×Value)):fl (a++b)=fl a++fl b:=by simp [fl]
theorem KhG (l:List Rat) (r:Rat):szc (l++[r])=szc l++[I r.num,I r.den]:=by
 unfold szc;rw [List.map_append,Kkv];rfl
theorem KjV {l:List Rat} {i:Nat} (h:i<l.length):(szc l)[2*i]? = some (I l[i].num)/\(szc l)[2*i+1]? = some (I l[i].den):=by
 have h2:(l.map λr=>qv (qR r))[i]? = some (qv (qR l[i])):=by rw [List.getElem?_map,List.getElem?_eq_getElem h];rfl
 exact Kmm _ i h2
def SzV (B:Nat) (w:World) (v:Value) (l:List Rat):Prop:=w.ownsRow B 84 2 v l.length (szc l)
theorem SzV.nil (B:Nat) (w:World):SzV B w (.slice none 0 0) []:=⟨rfl,.inl ⟨rfl,rfl⟩⟩
theorem SzV.ext {B:Nat} {w w':World} {v:Value} {l:List Rat} (h:SzV B w v l) (he:Ext w w'):SzV B w' v l:=K9 h he
theorem SzV.mono {B B':Nat} {w:World} {v:Value} {l:List Rat} (h:SzV B w v l) (hB:B'<=B):SzV B' w v l:=Q9 h hB
def SzR (w:World) (v:Value) (l:List Rat):Prop := ∃sa gb go cap,v = .slice sa l.length cap/\l.length<=cap/\(0<l.length->sa=some ⟨gb,go,none⟩) /\ ∀i (h:i<l.length),w.cell? ⟨gb,go+i*2,none⟩=some (I l[i].num)/\w.cell? ⟨gb,go+i*2+1,none⟩=some (I l[i].den)
theorem SzR.ext {w w':World} {v:Value} {l:List Rat} (h:SzR w v l) (he:Ext w w'):SzR w' v l:=by
 obtain ⟨sa,gb,go,cap,e,hc,ha,hr⟩:=h;exact ⟨sa,gb,go,cap,e,hc,ha,λi hi=>⟨he.cell (hr i hi).1,he.cell (hr i hi).2⟩⟩
theorem SzV.read {B:Nat} {w:World} {v:Value} {l:List Rat} (h:SzV B w v l):SzR w v l:=by
 rcases h.2 with ⟨rfl,h0⟩ | ⟨g,cap,cur,rfl,hb,hg,hn,hm,hs,ht⟩
 ·refine ⟨none,0,0,0,by rw [h0],by omega,λh=>by omega,λi hi=>by omega⟩
 ·refine ⟨_,g,0,cap,rfl,hn,λ_=>rfl,λi hi => ?_⟩;obtain ⟨k1,k2⟩:=KjV hi;have c1:=World.ownsRow.cellAt h (2*i) (by omega);have c2:=World.ownsRow.cellAt h (2*i+1) (by omega);rw [k1] at c1;rw [k2] at c2;rw [Nat.mul_comm i 2];exact ⟨by simpa using c1,by simpa using c2⟩
section
variable {w:World} {ops:Array Oper} {rest:List Oper} {o:Oper} {a:Act} {Q:Exit->Act->World->Prop}
theorem KfI (hgd:o.guard=none) (s x:Operand) (t:TypeId) (ht:Tryz.prog.underlying t=some (.slice 84)) (ho:o.op = .call { callee := .builtin .append,args := #[s,x],argTypes := #[t,t] })
  {B:Nat} {v:Value} {l:List Rat} {r:Rat} (hs:a.eval s=v) (hown:SzV B w v l) {b:Nat} (hx:a.eval x = .slice (some ⟨b,0,none⟩) 1 1) (c0:w.cell? ⟨b,0,none⟩=some (I r.num)) (c1:w.cell? ⟨b,1,none⟩=some (I r.den)) (hl:l.length<=1000000000) (hB:B<=w.heap.size)
  (h : ∀g cap w',SzV B w' (slv g (l.length+1) cap) (l++[r])->Below B w w'->w.grownBy w' v.ownBlock->wpList Tryz.prog ops Q rest (a.put o.dst (slv g (l.length+1) cap)) w'):wpList Tryz.prog ops Q (o::rest) a w:=by
 obtain ⟨i0,hi,hz0,hz1,hz2⟩:=info_parts Tryz.infoRat;refine wpList_append_lies w hgd s x t ho B 84 i0 _ 2 32 ht hi hz0 hz1 hz2 rfl (by omega) v l.length (szc l) hs hown ⟨b,0,none⟩ 1 1 [I r.num,I r.den] hx rfl ?_ ?_ (by omega) (by unfold maxLen;omega) (by omega) hB w.heap.size rfl ?_
 ·intro j u hj;rw [Lib.add_plain,Nat.zero_add]
  match j with
  | 0=>simp at hj;subst hj;exact c0
  | 1=>simp at hj;subst hj;exact c1
  | j+2=>simp at hj
 ·intro u hu;simp only [List.mem_cons,List.not_mem_nil,or_false] at hu
  rcases hu with rfl | rfl<;>rfl
 ·intro g cap w' k1 k2 k3 k4;refine h g cap w' ?_ (Below.grown (Below.refl _ _) k2 hB (λq hq=>(World.ownsRow.lt hown q hq).1)) k2;unfold SzV;rw [KhG,List.length_append];exact k1
end
end
section
end
section
open Go.RowKit Go.Sort
end
end Go.Proofs.YtmhfccigejcphaaGreatDoor
