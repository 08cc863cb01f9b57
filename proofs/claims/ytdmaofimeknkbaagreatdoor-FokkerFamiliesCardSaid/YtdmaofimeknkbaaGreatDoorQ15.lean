/- Part 15 of the proof of the claim: contracts of the functions that it reaches, and plain laws; no condition. -/
import Derived.Test.YtdmaofimeknkbaaGreatDoorQ14
set_option maxRecDepth 100000
set_option maxHeartbeats 20000000
namespace Go.Proofs.YtdmaofimeknkbaaGreatDoor
section
open Go.RowKit Go.Sort
open Lib (hid)
theorem YU (w:World) (T:TypeId) (a b c d e f:Value) : ∃X,((w.alloc (.cells #[a,b] T)).alloc (.cells #[c,d] T)).alloc (.cells #[e,f] T)=X/\Ext w X /\
  X.cell? ⟨w.heap.size,0,none⟩=some a/\X.cell? ⟨w.heap.size,1,none⟩=some b/\X.cell? ⟨w.heap.size+1,0,none⟩=some c/\X.cell? ⟨w.heap.size+1,1,none⟩=some d /\
  Kd T w.heap.size X (w.heap.size+1+1) 2 [e,f]:=by
 have h1:=Qq w T a b;have h2:=Qq (w.alloc (.cells #[a,b] T)) T c d;have h3:=Qq ((w.alloc (.cells #[a,b] T)).alloc (.cells #[c,d] T)) T e f;have x2:Ext (w.alloc (.cells #[a,b] T)) ((w.alloc (.cells #[a,b] T)).alloc (.cells #[c,d] T)):=(Ext.refl _).alloc _;have x3:Ext ((w.alloc (.cells #[a,b] T)).alloc (.cells #[c,d] T)) (((w.alloc (.cells #[a,b] T)).alloc (.cells #[c,d] T)).alloc (.cells #[e,f] T)):=(Ext.refl _).alloc _;have x1:Ext w (w.alloc (.cells #[a,b] T)):=(Ext.refl _).alloc _;simp only [World.size_alloc] at h2 h3;exact ⟨_,rfl,(x1.trans x2).trans x3,(x2.trans x3).cell (h1.cell (j:=0) (by simp)),(x2.trans x3).cell (h1.cell (j:=1) (by simp)),x3.cell (h2.cell (j:=0) (by simp)),x3.cell (h2.cell (j:=1) (by simp)),h3.mono (by omega)⟩
theorem KkP (w:World) (T:TypeId) (a b e f:Value) : ∃X,(w.alloc (.cells #[a,b] T)).alloc (.cells #[e,f] T)=X/\Ext w X /\
  X.cell? ⟨w.heap.size,0,none⟩=some a/\X.cell? ⟨w.heap.size,1,none⟩=some b/\Kd T w.heap.size X (w.heap.size+1) 2 [e,f]:=by
 have h1:=Qq w T a b;have h3:=Qq (w.alloc (.cells #[a,b] T)) T e f;have x3:Ext (w.alloc (.cells #[a,b] T)) ((w.alloc (.cells #[a,b] T)).alloc (.cells #[e,f] T)):=(Ext.refl _).alloc _;have x1:Ext w (w.alloc (.cells #[a,b] T)):=(Ext.refl _).alloc _;simp only [World.size_alloc] at h3;exact ⟨_,rfl,x1.trans x3,x3.cell (h1.cell (j:=0) (by simp)),x3.cell (h1.cell (j:=1) (by simp)),h3.mono (by omega)⟩
theorem Kg7 {a b:Int} (ha:nd a<=LIM) (w:World) :
  Calls Tryz.prog 81 #[.agg #[I a,I b]] w λe w'=>e = .returned (.agg #[I (-a),I b])/\Ext w w':=by
 have hN:=hid (Kah (z:=a) ha);obtain ⟨m,hm⟩ : ∃m,m = -a:=⟨_,rfl⟩
 rw [<-hm] at hN ⊢;obtain ⟨X,hXe,hX,c0,c1,hO⟩:=KkP w 47 (I a) (I b) (.string ⟨#[]⟩) (.string ⟨#[]⟩);have HO:=hid hO;obtain ⟨bs,hbs⟩ : ∃bs,bs=w.heap.size:=⟨_,rfl⟩
 clear hO hm ha
 go_enter Tryz.func81,Tryz.ntmps81
 go_wp2_with fail;rw [<-hbs] at c0 c1 HO ⊢;have hbs2:w.heap.size<=bs+1:=by omega
 clear hXe hbs;have d7:Ext X X.drew:=(Ext.refl X).drew;refine Ke (S:=λW=>Ext X W) 5 (by kernel_rfl) (by simp) ?_;intro inv;refine tkS (i:=0) (v := .pointer (some ⟨bs,0,none⟩)) rfl d7 inv ?_;intro inv;go_simp;refine tkA (i:=1) (v:=I a) rfl (.inl ⟨by rfl,λW hW=>by have z0:=hW.cell c0;go_simp⟩) d7 inv ?_;intro inv;go_simp;refine tkS (i:=3) (v := .pointer (some ⟨bs,1,none⟩)) rfl d7 inv ?_;intro inv;go_simp;refine tkA (i:=4) (v:=I b) rfl (.inl ⟨by rfl,λW hW=>by have z0:=hW.cell c1;go_simp⟩) d7 inv ?_;intro inv;go_simp;refine Kh (i:=2) rfl (by kernel_rfl) (λK0 hK0 => ?_);go_simp;refine (hN.out _).mono ?_;rintro e w1 ⟨rfl,hE1⟩;have d1:=d7.trans hE1;refine hK0 _ _ d1 ?_;clear hK0;refine Ki (by kernel_rfl) ?_;replace HO:=hid (HO.out.ext d1);replace hX:=hX.trans d1;obtain ⟨q0,q1,f0,f1,r0,r1,hF⟩:=Qj hX hbs2 HO.out (I m) (I b);have Hres:=hid (show YJ w (.agg #[I m,I b]) (.returned (.agg #[I m,I b])) _ from ⟨rfl,hF.out⟩);go_wp2_with fail;refine bodyPost_ret (v := .agg #[I m,I b]) (by simp [results,Tryz.results81,go_sem,r0,r1]) rfl Hres.out
theorem KmA {a b c d:Int} (ha:nd a<=100000000) (hb:nd b<=100000000) (hc:nd c<=100000000) (hd:nd d<=100000000) (hb0:0<b) (hd0:0<d) {w:World} (hL:Laid w) :
  Calls Tryz.prog 88 #[.agg #[I a,I b],.agg #[I c,I d]] w λe w'=>e = .returned (.agg #[I (qn (a*c) (b*d)),I (qd (a*c) (b*d))])/\Ext w w':=by
 have HL:=hid hL;have n1:=QY a c;have n2:=QY b d;have hbd:0<b*d:=Int.mul_pos hb0 hd0;have hl:=hid (λw hL=>Yy (n:=a*c) (d:=b*d) (w:=w) (by unfold LIM;omega) (by unfold LIM;omega) (by omega) hL);have hm1:=hid (λw hL=>ZR (a:=a) (b:=c) (w:=w) (by unfold LIM;omega) hL);have hm2:=hid (λw hL=>ZR (a:=b) (b:=d) (w:=w) (by unfold LIM;omega) hL);have hb1:=hid (Kap (a:=a) (b:=b) (by unfold LIM;omega) (by unfold LIM;omega));have hb2:=hid (Kap (a:=c) (b:=d) (by unfold LIM;omega) (by unfold LIM;omega))
 have Hof:=hid (λ(h1:(Kt 9 a&&Kt 9 b)=true) (h2:(Kt 9 c&&Kt 9 d)=true) w hL=>KjP (n:=a*c) (d:=b*d) (by
  simp only [Bool.and_eq_true] at h1 h2;have f1:=QO h1.1;have f2:=QO h2.1
  have:=Nat.mul_le_mul (Nat.le_of_lt f1) (Nat.le_of_lt f2);rw [<-Int.natAbs_mul] at this;omega) (by
  simp only [Bool.and_eq_true] at h1 h2;have f1:=QO h1.2;have f2:=QO h2.2
  have:=Nat.mul_le_mul (Nat.le_of_lt f1) (Nat.le_of_lt f2);rw [<-Int.natAbs_mul] at this;omega) (w:=w) hL)
 have Hw:=hid (λ(h1:(Kt 9 a&&Kt 9 b)=true) (h2:(Kt 9 c&&Kt 9 d)=true)=>(show IntKind.i64.wrap (a*c)=a*c/\IntKind.i64.wrap (b*d)=b*d from by
  simp only [Bool.and_eq_true] at h1 h2;have f1:=QO h1.1;have f2:=QO h2.1
  have f3:=QO h1.2;have f4:=QO h2.2
  have g1:=Nat.mul_le_mul (Nat.le_of_lt f1) (Nat.le_of_lt f2);rw [<-Int.natAbs_mul] at g1
  have g2:=Nat.mul_le_mul (Nat.le_of_lt f3) (Nat.le_of_lt f4);rw [<-Int.natAbs_mul] at g2
  exact ⟨IntWalk.i64_in _ (by omega),IntWalk.i64_in _ (by omega)⟩))
 obtain ⟨x,hx⟩ : ∃x,x=qn (a*c) (b*d):=⟨_,rfl⟩
 obtain ⟨y,hy⟩ : ∃y,y=qd (a*c) (b*d):=⟨_,rfl⟩
 rw [<-hx,<-hy] at hl ⊢;rw [<-hx,<-hy] at Hof;have v1:Kt 9 a=true->(if Kt 9 a=true then a else 0)=a:=λh=>if_pos h
 have v2:Kt 9 b=true->(if Kt 9 b=true then b else 0)=b:=λh=>if_pos h
 have v3:Kt 9 c=true->(if Kt 9 c=true then c else 0)=c:=λh=>if_pos h
 have v4:Kt 9 d=true->(if Kt 9 d=true then d else 0)=d:=λh=>if_pos h
 clear hx hy n1 n2 hbd ha hb hc hd hb0 hd0 hL;obtain ⟨X,hXe,hX,c0,c1,c2,c3,hO⟩:=YU w 47 (I a) (I b) (I c) (I d) (.string ⟨#[]⟩) (.string ⟨#[]⟩);have HO:=hid hO;obtain ⟨bs,hbs⟩ : ∃bs,bs=w.heap.size:=⟨_,rfl⟩
 have hsz:=hX.size;clear hO
 cases h1:(Kt 9 a&&Kt 9 b)
 ·rw [h1] at hb1;generalize (if Kt 9 a=true then a else 0)=a' at *;generalize (if Kt 9 b=true then b else 0)=b' at *;clear Hof Hw h1 v1 v2 v3 v4 hb2
  go_enter Tryz.func88,Tryz.ntmps88
  go_wp2_with fail;rw [<-hbs] at c0 c1 c2 c3 HO ⊢;have hbs2:w.heap.size<=bs+1+1:=by omega
  clear hXe hbs;refine (hb1.out _).mono ?_;rintro e w1 ⟨rfl,hE1⟩;replace c0:=hE1.cell c0;replace c1:=hE1.cell c1;replace c2:=hE1.cell c2;replace c3:=hE1.cell c3;replace HO:=hid (HO.out.ext hE1);replace hX:=hX.trans hE1;clear hE1;go_wp2_with fail;generalize w1=X at *;have d7:Ext X X.drew:=(Ext.refl X).drew;refine Ke (S:=λW=>Ext X W) 11 (by kernel_rfl) (by simp) ?_;intro inv;refine tkS (i:=0) (v := .pointer (some ⟨bs,0,none⟩)) rfl d7 inv ?_;intro inv;go_simp;refine tkA (i:=1) (v:=I a) rfl (.inl ⟨by rfl,λW hW=>by have z0:=hW.cell c0;go_simp⟩) d7 inv ?_;intro inv;go_simp;refine tkS (i:=2) (v := .pointer (some ⟨bs+1,0,none⟩)) rfl d7 inv ?_;intro inv;go_simp;refine tkA (i:=3) (v:=I c) rfl (.inl ⟨by rfl,λW hW=>by have z0:=hW.cell c2;go_simp⟩) d7 inv ?_;intro inv;go_simp;refine tkS (i:=5) (v := .pointer (some ⟨bs,1,none⟩)) rfl d7 inv ?_;intro inv;go_simp;refine tkA (i:=6) (v:=I b) rfl (.inl ⟨by rfl,λW hW=>by have z0:=hW.cell c1;go_simp⟩) d7 inv ?_;intro inv;go_simp;refine tkS (i:=7) (v := .pointer (some ⟨bs+1,1,none⟩)) rfl d7 inv ?_;intro inv;go_simp;refine tkA (i:=8) (v:=I d) rfl (.inl ⟨by rfl,λW hW=>by have z0:=hW.cell c3;go_simp⟩) d7 inv ?_;intro inv;go_simp;refine Kh (i:=4) rfl (by kernel_rfl) (λK0 hK0 => ?_);go_simp;refine (hm1.out _ (HL.out.ext (hX.trans d7))).mono ?_;rintro e w0 ⟨rfl,hF0⟩;have e0:=d7.trans hF0;refine hK0 _ _ e0 ?_;clear hK0;refine Kh (i:=9) rfl (by kernel_rfl) (λK1 hK1 => ?_);go_simp
  refine (hm2.out _ (HL.out.ext (hX.trans e0))).mono ?_;rintro e w1 ⟨rfl,hF1⟩;have e1:=e0.trans hF1;refine hK1 _ _ e1 ?_;clear hK1;refine Kh (i:=10) rfl (by kernel_rfl) (λK2 hK2 => ?_);go_simp;refine (hl.out _ (HL.out.ext (hX.trans e1))).mono ?_;rintro e w2 ⟨rfl,hF2⟩;have e2:=e1.trans hF2;refine hK2 _ _ e2 ?_;clear hK2;refine Ki (by kernel_rfl) ?_;replace HO:=hid (HO.out.ext e2);replace hX:=hX.trans e2;obtain ⟨q0,q1,f0,f1,r0,r1,hF⟩:=Qj hX hbs2 HO.out (I x) (I y);have Hres:=hid (show YJ w (.agg #[I x,I y]) (.returned (.agg #[I x,I y])) _ from ⟨rfl,hF.out⟩);go_wp2_with fail;refine bodyPost_ret (v := .agg #[I x,I y]) (by simp [results,Tryz.results88,go_sem,r0,r1]) rfl Hres.out
 ·rw [h1] at hb1
  cases h2:(Kt 9 c&&Kt 9 d)
  ·rw [h2] at hb2;generalize (if Kt 9 a=true then a else 0)=a' at *;generalize (if Kt 9 b=true then b else 0)=b' at *;generalize (if Kt 9 c=true then c else 0)=c' at *;generalize (if Kt 9 d=true then d else 0)=d' at *;clear Hof Hw h1 h2 v1 v2 v3 v4
   go_enter Tryz.func88,Tryz.ntmps88
   go_wp2_with fail;rw [<-hbs] at c0 c1 c2 c3 HO ⊢;have hbs2:w.heap.size<=bs+1+1:=by omega
   clear hXe hbs;refine (hb1.out _).mono ?_;rintro e w1 ⟨rfl,hE1⟩;replace c0:=hE1.cell c0;replace c1:=hE1.cell c1;replace c2:=hE1.cell c2;replace c3:=hE1.cell c3;replace HO:=hid (HO.out.ext hE1);replace hX:=hX.trans hE1;clear hE1;go_wp2_with fail;refine (hb2.out _).mono ?_;rintro e w2 ⟨rfl,hE1⟩;replace c0:=hE1.cell c0;replace c1:=hE1.cell c1;replace c2:=hE1.cell c2;replace c3:=hE1.cell c3;replace HO:=hid (HO.out.ext hE1);replace hX:=hX.trans hE1;clear hE1;go_wp2_with fail;generalize w2=X at *;have d7:Ext X X.drew:=(Ext.refl X).drew;refine Ke (S:=λW=>Ext X W) 11 (by kernel_rfl) (by simp) ?_;intro inv;refine tkS (i:=0) (v := .pointer (some ⟨bs,0,none⟩)) rfl d7 inv ?_;intro inv;go_simp;refine tkA (i:=1) (v:=I a) rfl (.inl ⟨by rfl,λW hW=>by have z0:=hW.cell c0;go_simp⟩) d7 inv ?_;intro inv;go_simp;refine tkS (i:=2) (v := .pointer (some ⟨bs+1,0,none⟩)) rfl d7 inv ?_;intro inv;go_simp;refine tkA (i:=3) (v:=I c) rfl (.inl ⟨by rfl,λW hW=>by have z0:=hW.cell c2;go_simp⟩) d7 inv ?_;intro inv;go_simp;refine tkS (i:=5) (v := .pointer (some ⟨bs,1,none⟩)) rfl d7 inv ?_;intro inv;go_simp;refine tkA (i:=6) (v:=I b) rfl (.inl ⟨by rfl,λW hW=>by have z0:=hW.cell c1;go_simp⟩) d7 inv ?_;intro inv;go_simp;refine tkS (i:=7) (v := .pointer (some ⟨bs+1,1,none⟩)) rfl d7 inv ?_;intro inv;go_simp;refine tkA (i:=8) (v:=I d) rfl (.inl ⟨by rfl,λW hW=>by have z0:=hW.cell c3;go_simp⟩) d7 inv ?_;intro inv;go_simp
   refine Kh (i:=4) rfl (by kernel_rfl) (λK0 hK0 => ?_);go_simp;refine (hm1.out _ (HL.out.ext (hX.trans d7))).mono ?_;rintro e w0 ⟨rfl,hF0⟩;have e0:=d7.trans hF0;refine hK0 _ _ e0 ?_;clear hK0;refine Kh (i:=9) rfl (by kernel_rfl) (λK1 hK1 => ?_);go_simp;refine (hm2.out _ (HL.out.ext (hX.trans e0))).mono ?_;rintro e w1 ⟨rfl,hF1⟩;have e1:=e0.trans hF1;refine hK1 _ _ e1 ?_;clear hK1;refine Kh (i:=10) rfl (by kernel_rfl) (λK2 hK2 => ?_);go_simp;refine (hl.out _ (HL.out.ext (hX.trans e1))).mono ?_;rintro e w2 ⟨rfl,hF2⟩;have e2:=e1.trans hF2;refine hK2 _ _ e2 ?_;clear hK2;refine Ki (by kernel_rfl) ?_;replace HO:=hid (HO.out.ext e2);replace hX:=hX.trans e2;obtain ⟨q0,q1,f0,f1,r0,r1,hF⟩:=Qj hX hbs2 HO.out (I x) (I y);have Hres:=hid (show YJ w (.agg #[I x,I y]) (.returned (.agg #[I x,I y])) _ from ⟨rfl,hF.out⟩);go_wp2_with fail;refine bodyPost_ret (v := .agg #[I x,I y]) (by simp [results,Tryz.results88,go_sem,r0,r1]) rfl Hres.out
  ·rw [h2] at hb2;obtain ⟨hw1,hw2⟩:=Hw.out h1 h2;have hof:=hid (Hof.out h1 h2);simp only [Bool.and_eq_true] at h1 h2;rw [v1 h1.1,v2 h1.2] at hb1;rw [v3 h2.1,v4 h2.2] at hb2;clear Hof Hw h1 h2 v1 v2 v3 v4
   go_enter Tryz.func88,Tryz.ntmps88
   go_wp2_with fail;rw [<-hbs] at c0 c1 c2 c3 HO ⊢;have hbs2:w.heap.size<=bs+1+1:=by omega
   clear hXe hbs;refine (hb1.out _).mono ?_;rintro e w1 ⟨rfl,hE1⟩;replace c0:=hE1.cell c0;replace c1:=hE1.cell c1;replace c2:=hE1.cell c2;replace c3:=hE1.cell c3;replace HO:=hid (HO.out.ext hE1);replace hX:=hX.trans hE1;clear hE1;go_wp2_with fail;refine (hb2.out _).mono ?_;rintro e w2 ⟨rfl,hE1⟩;replace c0:=hE1.cell c0;replace c1:=hE1.cell c1;replace c2:=hE1.cell c2;replace c3:=hE1.cell c3;replace HO:=hid (HO.out.ext hE1);replace hX:=hX.trans hE1;clear hE1;go_wp2_with fail;refine (hof.out _ (HL.out.ext hX)).mono ?_;rintro e w3 ⟨rfl,hE1⟩;replace c0:=hE1.cell c0;replace c1:=hE1.cell c1;replace c2:=hE1.cell c2;replace c3:=hE1.cell c3;replace HO:=hid (HO.out.ext hE1);replace hX:=hX.trans hE1;clear hE1;obtain ⟨q0,q1,f0,f1,r0,r1,hF⟩:=Qj hX hbs2 HO.out (I x) (I y);have Hres:=hid (show YJ w (.agg #[I x,I y]) (.returned (.agg #[I x,I y])) _ from ⟨rfl,hF.out⟩);go_wp2_with fail;refine bodyPost_ret (v := .agg #[I x,I y]) (by simp [results,Tryz.results88,go_sem,r0,r1]) rfl Hres.out
end
end Go.Proofs.YtdmaofimeknkbaaGreatDoor
