/- Part 41 of the proof of the claim: contracts of the functions that it reaches, and plain laws; no condition. -/
import Derived.Test.YtmhfccigejcphaaGreatDoorQ26
import Derived.Test.YtmhfccigejcphaaGreatDoorQ15
import Derived.Test.YtmhfccigejcphaaGreatDoorQ14
import Derived.BigQuiet
set_option maxRecDepth 100000
set_option maxHeartbeats 20000000
namespace Go.Proofs.YtmhfccigejcphaaGreatDoor
section
open Go.RowKit Go.Sort
open Lib (hid)
def rdT (x:List Int) (B:Mx) (q:Nat->Int) (n k j:Nat):List Int:=(List.range n).map λi=>x.getD i 0-KE (λt=>q t*eM B t i) (if i<j then k+1 else k)
@[simp] theorem KiC (x:List Int) (B:Mx) (q:Nat->Int) (n k j:Nat):(rdT x B q n k j).length=n:=by simp [rdT]
theorem Jo {x:List Int} {B:Mx} {q:Nat->Int} {n k j i:Nat} (h:i<(rdT x B q n k j).length):(rdT x B q n k j)[i]=x.getD i 0-KE (λt=>q t*eM B t i) (if i<j then k+1 else k):=by simp [rdT]
theorem YZ {x:List Int} {B:Mx} {q:Nat->Int} {n k j i:Nat} (h:i<n):(rdT x B q n k j).getD i 0=x.getD i 0-KE (λt=>q t*eM B t i) (if i<j then k+1 else k):=by
 rw [List.getD_eq_getElem?_getD,List.getElem?_eq_getElem (by simpa using h)];exact Jo _
theorem Khr {x:List Int} {B:Mx} {q:Nat->Int} {n k j:Nat} (h:j<n):(rdT x B q n k j).set j ((rdT x B q n k j).getD j 0-q k*eM B k j)=rdT x B q n k (j+1):=by
 refine List.ext_getElem (by simp) λi h1 h2 => ?_
 rw [List.getElem_set,Jo,Jo,YZ h]
 by_cases e:j=i
 ·subst e;rw [if_pos rfl,if_neg (by omega),if_pos (by omega),KE];omega
 ·rw [if_neg e];have:(i<j↔i<j+1):=by omega
  simp only [this]
theorem Khq {x:List Int} {B:Mx} {q:Nat->Int} {n k:Nat}:rdT x B q n k n=rdT x B q n (k+1) 0:=by
 refine List.ext_getElem (by simp) λi h1 h2 => ?_
 rw [Jo,Jo,if_pos (by simpa using h1),if_neg (by omega)]
theorem Kfd {x:List Int} {B:Mx} {q:Nat->Int} {n:Nat} (h:x.length=n):rdT x B q n 0 0=x:=by
 refine List.ext_getElem (by simp [h]) λi h1 h2 => ?_
 rw [Jo,if_neg (by omega),KE,List.getD_eq_getElem?_getD,List.getElem?_eq_getElem h2];simp
def rdL (n:Nat) (M:Mx) (O:List Rat) (x:List Int) (c:Nat->Rat):List Int:=(List.range n).map (KbX n M O (λi=>x.getD i 0) c)
@[simp] theorem Xm (n:Nat) (M:Mx) (O:List Rat) (x:List Int) (c:Nat->Rat):(rdL n M O x c).length=n:=by simp [rdL]
theorem JR {n:Nat} {M:Mx} {O:List Rat} {x:List Int} {c:Nat->Rat} {i:Nat} (h:i<n):(rdL n M O x c).getD i 0=KbX n M O (λi=>x.getD i 0) c i:=by
 unfold rdL;rw [List.getD_eq_getElem?_getD,List.getElem?_map,List.getElem?_range h];rfl
theorem KjL {n:Nat} {M:Mx} {O:List Rat} {x:List Int} {c:Nat->Rat}:rdT x (bsM n M) (qE O c) n n 0=rdL n M O x c:=by
 refine List.ext_getElem (by simp) λi h1 h2 => ?_
 rw [Jo,if_neg (by omega)];simp [rdL,KbX]
theorem KpT {x:List Int} {B:Mx} {q:Nat->Int} {n k j:Nat} {E D:Nat} (hx : ∀i,nd (x.getD i 0)<=D+E) (hq : ∀t,nd (q t)<=E) (hB : ∀t i,nd (eM B t i)<=D) : ∀i,nd ((rdT x B q n k j).getD i 0)<=D+E+k+2:=λi=>by
 have hs : ∀m,nd (KE (λt=>q t*eM B t i) m)<=D+E+m:=λm=>by
  induction m with
  | zero=>show nd 0<=_;rw [KpH];have:=KmF (q 0);have:=hq 0;omega
  | succ m ih =>
   show nd (_+q m*eM B m i)<=_;have h1:=KaK (KE (λt=>q t*eM B t i) m) (q m*eM B m i);have h2:=QF (q m) (eM B m i);have h3:=hq m;have h4:=hB m i;omega
 by_cases h:i<n
 ·rw [YZ h];have h1:=KpJ (x.getD i 0) (KE (λt=>q t*eM B t i) (if i<j then k+1 else k));have h2:=hx i;have h3:=hs (if i<j then k+1 else k);have h4:(if i<j then k+1 else k)<=k+1:=by split<;>omega
  omega
 ·rw [List.getD_eq_getElem?_getD,List.getElem?_eq_none (by simp;omega)];show nd 0<=_;rw [KpH];omega
theorem Khd (r:Rat):nd r.floor<=nd r.num:=by
 rw [Rat.floor_def];exact Kf2 r.num r.den
theorem Kia {a b:Int} (ha:nd a<LIM) (hb:nd b<LIM) (h0:b≠0) {w:World} (hL:Laid w) :
  Calls Tryz.prog 69 #[.agg #[I a,I b]] w λe w'=>e = .returned (I (a.fdiv b))/\Ext w w':=by
 have hd:=hid (λX (hX:Ext w X)=>Qg ha hb h0 (w:=X) (hL.ext hX));obtain ⟨q,hq⟩ : ∃q,q=a.fdiv b:=⟨_,rfl⟩
 rw [<-hq] at hd ⊢;have hX:Ext w (w.alloc (.cells #[I a,I b] 84)):=(Ext.refl w).alloc _;have HO:=Qq w 84 (I a) (I b);have c0:(w.alloc (.cells #[I a,I b] 84)).cell? ⟨w.heap.size,0,none⟩=some (I a):=HO.cell (j:=0) (by simp);have c1:(w.alloc (.cells #[I a,I b] 84)).cell? ⟨w.heap.size,1,none⟩=some (I b):=HO.cell (j:=1) (by simp);clear HO hq ha hb h0 hL
 go_enter Tryz.func69,Tryz.ntmps69
 go_wp2_with fail;refine (hd.out _ hX).mono ?_;rintro e w1 ⟨rfl,hE1⟩;go_wp2_with fail;go_ret;exact ⟨rfl,hX.trans hE1⟩
theorem Ka5 {z:Int} (h:Km 9 z=true):z.natAbs<1000000000:=by
 have h1:(Lib.itoa z).length<=9:=of_decide_eq_true h
 have h2:Lib.nDigits z.natAbs<=9:=by
  have:=QO z;unfold nd at this;split at this<;>omega
 exact KA (k:=9) h2
theorem Kgw {a c d:Int} (hd:0<d):Xi (a*d) (c*d)=Xi a c:=by
 have h1:a*d<c*d↔a<c:=Int.mul_lt_mul_right hd;have h2:c*d<a*d↔c<a:=Int.mul_lt_mul_right hd;unfold Xi;simp only [h1,h2]
theorem Kkx (w:World) (a b c d:Value):Ext w ((w.alloc (.cells #[a,b] 84)).alloc (.cells #[c,d] 84)) /\
  ((w.alloc (.cells #[a,b] 84)).alloc (.cells #[c,d] 84)).cell? ⟨w.heap.size,0,none⟩=some a/\((w.alloc (.cells #[a,b] 84)).alloc (.cells #[c,d] 84)).cell? ⟨w.heap.size,1,none⟩=some b /\
  ((w.alloc (.cells #[a,b] 84)).alloc (.cells #[c,d] 84)).cell? ⟨w.heap.size+1,0,none⟩=some c/\((w.alloc (.cells #[a,b] 84)).alloc (.cells #[c,d] 84)).cell? ⟨w.heap.size+1,1,none⟩=some d :=
 ⟨((Ext.refl w).alloc _).alloc _,by go_simp,by go_simp,by go_simp,by go_simp⟩
theorem KfS {a b c d:Int} (ha:nd a<=100000000) (hb:nd b<=100000000) (hc:nd c<=100000000) (hd:nd d<=100000000) (hb0:0<b) (hd0:0<d) {w:World} (hL:Laid w) :
  Calls Tryz.prog 81 #[.agg #[I a,I b],.agg #[I c,I d]] w λe w'=>e = .returned (.int .i64 (Xi (a*d) (c*b)))/\Ext w w':=by
 have l1:=hid (λX=>XY (a:=a) (b:=b) (by unfold LIM;omega) (by unfold LIM;omega) X);have l2:=hid (λX=>XY (a:=c) (b:=d) (by unfold LIM;omega) (by unfold LIM;omega) X);have n1:=QF a d;have n2:=QF c b;have hcm:=hid (λX=>Xv (a:=a) (b:=c) (by unfold LIM;omega) (by unfold LIM;omega) X);have hcp:=hid (λX=>Xv (a:=a*d) (b:=c*b) (by unfold LIM;omega) (by unfold LIM;omega) X);have hm1:=hid (λX (hX:Ext w X)=>Zk (a:=a) (b:=d) (by unfold LIM;omega) (w:=X) (hL.ext hX));have hm2:=hid (λX (hX:Ext w X)=>Zk (a:=c) (b:=b) (by unfold LIM;omega) (w:=X) (hL.ext hX));have f1:=λh=>Ka5 (z:=a) h
 have f2:=λh=>Ka5 (z:=b) h
 have f3:=λh=>Ka5 (z:=c) h
 have f4:=λh=>Ka5 (z:=d) h
 obtain ⟨eX,c0,c1,c2,c3⟩:=Kkx w (I a) (I b) (I c) (I d);clear n1 n2 ha hb hc hd hL
 by_cases h12:(Km 9 a&&Km 9 b)=true
 ·rw [h12] at l1;simp only [Bool.and_eq_true] at h12;rw [h12.1,h12.2,if_pos rfl,if_pos rfl] at l1;have ka:=f1 h12.1;have kb:=f2 h12.2
  by_cases h34:(Km 9 c&&Km 9 d)=true
  ·rw [h34] at l2;simp only [Bool.and_eq_true] at h34;rw [h34.1,h34.2,if_pos rfl,if_pos rfl] at l2;have kc:=f3 h34.1;have kd:=f4 h34.2;have m1:(a*d).natAbs<1000000000000000000:=by rw [Int.natAbs_mul];exact Nat.mul_lt_mul'' ka kd
   have m2:(c*b).natAbs<1000000000000000000:=by rw [Int.natAbs_mul];exact Nat.mul_lt_mul'' kc kb
   obtain ⟨v,hv⟩ : ∃v,v=Xi (a*d) (c*b):=⟨_,rfl⟩
   rw [<-hv];unfold Xi at hv;clear h12 h34 f1 f2 f3 f4 hcm hcp hm1 hm2 ka kb kc kd
   have h3:(a*d<c*b/\v = -1)\/(¬a*d<c*b/\c*b<a*d/\v=1)\/(¬a*d<c*b /\ ¬c*b<a*d/\v=0):=by
    by_cases q1:a*d<c*b
    ·rw [if_pos q1] at hv;exact .inl ⟨q1,hv⟩
    ·rw [if_neg q1] at hv
     by_cases q2:c*b<a*d
     ·rw [if_pos q2] at hv;exact .inr (.inl ⟨q1,q2,hv⟩)
     ·rw [if_neg q2] at hv;exact .inr (.inr ⟨q1,q2,hv⟩)
   clear hv
   rcases h3 with ⟨q1,rfl⟩ | ⟨q1,q2,rfl⟩ | ⟨q1,q2,rfl⟩
   all_goals
    go_enter Tryz.func81,Tryz.ntmps81
    go_wp2_with fail;refine (l1.out _).mono ?_;rintro e w1 ⟨rfl,hE1⟩;have c2:=hE1.cell c2;have c3:=hE1.cell c3;go_wp2_with fail;refine (l2.out _).mono ?_;rintro e w2 ⟨rfl,hE2⟩;have hE:=(eX.trans hE1).trans hE2;go_wp2_with fail;go_ret;exact ⟨rfl,hE⟩
  ·have h34:(Km 9 c&&Km 9 d)=false:=by simpa using h34
   rw [h34] at l2;clear h34 h12 f1 f2 f3 f4 ka kb;obtain ⟨x,hx⟩ : ∃x,x=(if Km 9 c=true then c else 0):=⟨_,rfl⟩
   obtain ⟨y,hy⟩ : ∃y,y=(if Km 9 d=true then d else 0):=⟨_,rfl⟩
   rw [<-hx,<-hy] at l2;clear hx hy
   by_cases hbd:b=d
   ·subst hbd;have HQ:=hid (Kgw (a:=a) (c:=c) hb0);clear hcp hm1 hm2
    go_enter Tryz.func81,Tryz.ntmps81
    go_wp2_with fail;refine (l1.out _).mono ?_;rintro e w1 ⟨rfl,hE1⟩;have c0:=hE1.cell c0;have c1:=hE1.cell c1;have c2:=hE1.cell c2;have c3:=hE1.cell c3;go_wp2_with fail;refine (l2.out _).mono ?_;rintro e w2 ⟨rfl,hE2⟩;have hE:=(eX.trans hE1).trans hE2;have c0:=hE2.cell c0;have c1:=hE2.cell c1;have c2:=hE2.cell c2;have c3:=hE2.cell c3;go_wp2_with fail;refine (hcm.out _).mono ?_;rintro e w3 ⟨rfl,hE3⟩;go_wp2_with fail;go_ret;exact ⟨by rw [HQ.out];rfl,hE.trans hE3⟩
   ·have hbd2:(Lib.itoa b==Lib.itoa d)=false:=beq_eq_false_iff_ne.2 (λh=>hbd (Kdz h));clear hcm
    go_enter Tryz.func81,Tryz.ntmps81
    go_wp2_with fail;refine (l1.out _).mono ?_;rintro e w1 ⟨rfl,hE1⟩;have c0:=hE1.cell c0;have c1:=hE1.cell c1;have c2:=hE1.cell c2;have c3:=hE1.cell c3;go_wp2_with fail;refine (l2.out _).mono ?_;rintro e w2 ⟨rfl,hE2⟩;have hE:=(eX.trans hE1).trans hE2;have c0:=hE2.cell c0;have c1:=hE2.cell c1;have c2:=hE2.cell c2;have c3:=hE2.cell c3;have b1:=hid (KO (w:=w2) (λW h=>hm1.out W (hE.trans h)));have b2:=hid (KO (w:=w2) (λW h=>hm2.out W (hE.trans h)));have b3:=hid (KO (w:=w2) (λW _=>hcp.out W));have k0:=cell_regrown c0;have k1:=cell_regrown c1;have k2:=cell_regrown c2;have k3:=cell_regrown c3;clear hcp hm1 hm2;go_wp2_with fail;refine wp_region_quiet_below (by kernel_rfl) (by kernel_rfl) ?_
    repeat (quiet_step (first | (with_reducible exact b1.out _ _) | (with_reducible exact b2.out _ _) | (with_reducible exact b3.out _ _)))
    refine wpQuiet_nil ?_;intro _ hw';obtain ⟨⟨dq,osq⟩,hw''⟩:=hw';subst hw'';have hE5:=hE.trans (Kj _ dq osq);go_wp2_with fail;go_ret;exact ⟨rfl,hE5⟩
 ·have h12:(Km 9 a&&Km 9 b)=false:=by simpa using h12
  rw [h12] at l1;clear h12 f1 f2 f3 f4 l2;obtain ⟨x,hx⟩ : ∃x,x=(if Km 9 a=true then a else 0):=⟨_,rfl⟩
  obtain ⟨y,hy⟩ : ∃y,y=(if Km 9 b=true then b else 0):=⟨_,rfl⟩
  rw [<-hx,<-hy] at l1;clear hx hy
  by_cases hbd:b=d
  ·subst hbd;have HQ:=hid (Kgw (a:=a) (c:=c) hb0);clear hcp hm1 hm2
   go_enter Tryz.func81,Tryz.ntmps81
   go_wp2_with fail;refine (l1.out _).mono ?_;rintro e w1 ⟨rfl,hE1⟩;have c0:=hE1.cell c0;have c1:=hE1.cell c1;have c2:=hE1.cell c2;have c3:=hE1.cell c3;have hE:=eX.trans hE1;go_wp2_with fail;refine (hcm.out _).mono ?_;rintro e w3 ⟨rfl,hE3⟩;go_wp2_with fail;go_ret;exact ⟨by rw [HQ.out];rfl,hE.trans hE3⟩
  ·have hbd2:(Lib.itoa b==Lib.itoa d)=false:=beq_eq_false_iff_ne.2 (λh=>hbd (Kdz h));clear hcm
   go_enter Tryz.func81,Tryz.ntmps81
   go_wp2_with fail;refine (l1.out _).mono ?_;rintro e w1 ⟨rfl,hE1⟩;have c0:=hE1.cell c0;have c1:=hE1.cell c1;have c2:=hE1.cell c2;have c3:=hE1.cell c3;have hE:=eX.trans hE1;have b1:=hid (KO (w:=w1) (λW h=>hm1.out W (hE.trans h)));have b2:=hid (KO (w:=w1) (λW h=>hm2.out W (hE.trans h)));have b3:=hid (KO (w:=w1) (λW _=>hcp.out W));have k0:=cell_regrown c0;have k1:=cell_regrown c1;have k2:=cell_regrown c2;have k3:=cell_regrown c3;clear hcp hm1 hm2;go_wp2_with fail;refine wp_region_quiet_below (by kernel_rfl) (by kernel_rfl) ?_
   repeat (quiet_step (first | (with_reducible exact b1.out _ _) | (with_reducible exact b2.out _ _) | (with_reducible exact b3.out _ _)))
   refine wpQuiet_nil ?_;intro _ hw';obtain ⟨⟨dq,osq⟩,hw''⟩:=hw';subst hw'';have hE5:=hE.trans (Kj _ dq osq);go_wp2_with fail;go_ret;exact ⟨rfl,hE5⟩
def Kh1 (a b:Rat):Int:=if a<b then -1 else if b<a then 1 else 0
theorem KnN (a b:Rat):Xi (a.num*(b.den:Int)) (b.num*(a.den:Int))=Kh1 a b:=by
 unfold Xi Kh1;simp only [Rat.lt_iff]
theorem JQ {a b:Rat} (ha:SmQ a) (hb:SmQ b) {w:World} (hL:Laid w) :
  Calls Tryz.prog 81 #[RV a,RV b] w λe w'=>e = .returned (.int .i64 (Kh1 a b))/\Ext w w':=by
 have h:=KfS ha.1 ha.2 hb.1 hb.2 (den_pos' a) (den_pos' b) hL;rw [KnN] at h;exact h
theorem Jn {a:Rat} (ha:SmQ a) {w:World} (hL:Laid w) :
  Calls Tryz.prog 69 #[RV a] w λe w'=>e = .returned (I a.floor)/\Ext w w':=by
 have h:=Kia (a:=a.num) (b:=a.den) (by have:=ha.1;unfold LIM;omega) (by have:=ha.2;unfold LIM;omega) (by have:=den_pos' a;omega) hL
 have e:a.num.fdiv (a.den:Int)=a.floor:=by
  rw [Rat.floor_def,Int.fdiv_eq_ediv_of_nonneg _ (by omega)]
 rw [e] at h;exact h
end
end Go.Proofs.YtmhfccigejcphaaGreatDoor
