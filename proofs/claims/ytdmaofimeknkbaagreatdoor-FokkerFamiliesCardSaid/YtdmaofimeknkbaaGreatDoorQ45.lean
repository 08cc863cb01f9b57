/- Part 45 of the proof of the claim: contracts of the functions that it reaches, and plain laws; no condition. -/
import Derived.Test.YtdmaofimeknkbaaGreatDoorQ40
import Derived.Test.YtdmaofimeknkbaaGreatDoorQ44
import Derived.Test.YtdmaofimeknkbaaGreatDoorQ42
import Derived.Test.YtdmaofimeknkbaaGreatDoorQ43
import Derived.Test.YtdmaofimeknkbaaGreatDoorQ12
import Derived.Test.YtdmaofimeknkbaaGreatDoorQ35
import Derived.Test.YtdmaofimeknkbaaGreatDoorQ26
import Derived.Test.YtdmaofimeknkbaaGreatDoorQ27
import Derived.Test.YtdmaofimeknkbaaGreatDoorQ33
import Derived.Test.YtdmaofimeknkbaaGreatDoorQ16
import Derived.Test.YtdmaofimeknkbaaGreatDoorQ19
import Derived.Test.YtdmaofimeknkbaaGreatDoorQ13
set_option maxRecDepth 100000
set_option maxHeartbeats 20000000
namespace Go.Proofs.YtdmaofimeknkbaaGreatDoor
section
open Go.RowKit Go.Sort
open Lib (hid)
variable {w:World} {n cp m cu gm nx cx:Nat} {sp sx:Option Addr} {vo:Value} {P:List Int} {M:Mx} {O:List Rat} {vl x:List Int}
variable {w:World} {n cp m cu gm nx cx:Nat} {sp sx:Option Addr} {vo:Value} {P:List Int} {M:Mx} {O:List Rat} {vl x:List Int}
variable {w:World} {n cp m cu gm nx cx:Nat} {sp sx:Option Addr} {vo:Value} {P:List Int} {M:Mx} {O:List Rat} {vl x:List Int}
theorem Klj {n:Nat} {M:Mx} {v:List Int} (h:BkM n M v) (O:List Rat) {x y q:Nat->Int} {c d:Nat->Rat} (hc:CoV n M (λi=>((x i:Int):Rat)) c) (hd:CoV n M (λi=>((y i:Int):Rat)) d) (hy : ∀i,i<n->y i=x i+KD (λj=>q j*eM (bsM n M) j i) n) :
  ∀i,i<n->Kcb n M O y d i=Kcb n M O x c i:=λi hi=>by
 have h1:CoV n M (λi=>((y i:Int):Rat)) (λj=>c j+((q j:Int):Rat)) :=
  (hc.add (CoV.self n M q)).congr (λi hi=>by rw [hy i hi,Rat.intCast_add]) (λ_ _=>rfl)
 have h2:=h.uniq hd h1
 have h3 : ∀j,j<n->qE O d j=qE O c j+q j:=λj hj=>by
  rw [<-Kqi O c q j];unfold qE;rw [h2 j hj]
 unfold Kcb
 have h4:KD (λj=>qE O d j*eM (bsM n M) j i) n=KD (λj=>qE O c j*eM (bsM n M) j i) n+KD (λj=>q j*eM (bsM n M) j i) n:=by
  rw [<-Kh1];exact QM λj hj=>by rw [h3 j hj,Int.add_mul]
 rw [h4,hy i hi];omega
theorem Klf {n:Nat} {M:Mx} {v:List Int} (h:BkM n M v) (O:List Rat) {x y:List Int} {q:Nat->Int} {c d:Nat->Rat} (hc:CoV n M (λi=>((x.getD i 0:Int):Rat)) c) (hd:CoV n M (λi=>((y.getD i 0:Int):Rat)) d) (hy : ∀i,i<n->y.getD i 0=x.getD i 0+KD (λj=>q j*eM (bsM n M) j i) n) :
  rdL n M O y d=rdL n M O x c:=by
 refine List.ext_getElem (by simp) λi h1 h2 => ?_
 have hi:i<n:=by simpa using h1
 have h3:=Klj h O hc hd hy i hi;rw [<-Keb (O:=O) hi,<-Keb (O:=O) hi,Ka h1,Ka h2] at h3;exact h3
def yT (x:List Int) (q:Nat->Int) (n:Nat) (M:Mx) (i c:Nat):List Int:=(List.range n).map λt=>x.getD t 0+(if t=0 then (q 0).tmod 4 else 0)+KD (λj=>(q (j+1)).tmod 4*eM M j t) (if t<c then i+1 else i)
@[simp] theorem KqG (x:List Int) (q:Nat->Int) (n:Nat) (M:Mx) (i c:Nat):(yT x q n M i c).length=n:=by simp [yT]
theorem KdL {a b:List Int} (hl:a.length=b.length) (h : ∀t,t<a.length->a.getD t 0=b.getD t 0):a=b:=by
 refine List.ext_getElem hl λt h1 h2 => ?_
 have:=h t h1;rwa [Ka h1,Ka h2] at this
theorem Kra {M:Mx} (hl:M.length=1) (hR:Ku 2 M) : ∃a b,M=[[a,b]]:=by
 match M,hl,hR with
 | [r],_,hR =>
  have h:=hR r (by simp)
  match r,h with
  | [a,b],_=>exact ⟨a,b,rfl⟩
theorem Kqr {r:List Int} (h:r.length=3) : ∃a b c,r=[a,b,c]:=by
 match r,h with
 | [a,b,c],_=>exact ⟨a,b,c,rfl⟩
theorem Krn {r:List Int} (h:r.length=2) : ∃a b,r=[a,b]:=by
 match r,h with
 | [a,b],_=>exact ⟨a,b,rfl⟩
theorem Krb {M:Mx} (hl:M.length=2) (hR:Ku 3 M) : ∃a b c d e f,M=[[a,b,c],[d,e,f]]:=by
 match M,hl,hR with
 | [r,s],_,hR =>
  obtain ⟨a,b,c,rfl⟩:=Kqr (hR r (by simp));obtain ⟨d,e,f,rfl⟩:=Kqr (hR s (by simp));exact ⟨a,b,c,d,e,f,rfl⟩
theorem Koe {M:Mx} {v x:List Int} {c:Nat->Rat} (h:BkM 2 M v) (hx:x.length=2) (hc:CoV 2 M (λi=>((x.getD i 0:Int):Rat)) c) :
  JA (bsM 2 M)≠0 /\ ∀i,i<2->((JA ((bsM 2 M).set i x):Int):Rat)=c i*((JA (bsM 2 M):Int):Rat):=by
 have hl:=h.len;obtain ⟨a,b,rfl⟩:=Kra (by omega) h.rect;obtain ⟨p,q,rfl⟩:=Krn hx;have hz:=h.nz;obtain ⟨e0,e1⟩:=hc.e2;have e0:c 0+(a:Rat)*c 1=(p:Rat):=e0;have e1:(b:Rat)*c 1=(q:Rat):=e1;have hz:0-b≠0:=hz;have hd:JA (bsM 2 [[a,b]])=1*b-0*a:=rfl;refine ⟨by rw [hd];omega,λi hi => ?_⟩
 rcases (show i=0\/i=1 by omega) with rfl | rfl
 ·have h1:JA ((bsM 2 [[a,b]]).set 0 [p,q])=p*b-q*a:=rfl;rw [h1,hd,Rat.intCast_sub,Rat.intCast_sub,Rat.intCast_mul,Rat.intCast_mul,Rat.intCast_mul,Rat.intCast_mul,Rat.intCast_one,Rat.intCast_zero,<-e0,<-e1]
  grind
 ·have h1:JA ((bsM 2 [[a,b]]).set 1 [p,q])=1*q-0*p:=rfl;rw [h1,hd,Rat.intCast_sub,Rat.intCast_sub,Rat.intCast_mul,Rat.intCast_mul,Rat.intCast_mul,Rat.intCast_mul,Rat.intCast_one,Rat.intCast_zero,<-e1]
  grind
theorem Kof {M:Mx} {v x:List Int} {c:Nat->Rat} (h:BkM 3 M v) (hx:x.length=3) (hc:CoV 3 M (λi=>((x.getD i 0:Int):Rat)) c) :
  Zx (bsM 3 M) 3≠0 /\ ∀i,i<3->((Zx ((bsM 3 M).set i x) 3:Int):Rat)=c i*((Zx (bsM 3 M) 3:Int):Rat):=by
 have hl:=h.len;obtain ⟨a0,a1,a2,b0,b1,b2,rfl⟩:=Krb (by omega) h.rect;obtain ⟨x0,x1,x2,rfl⟩:=Kqr hx;have hz:=h.nz;obtain ⟨e0,e1,e2⟩:=hc.e3;have e0:c 0+(a0:Rat)*c 1+(b0:Rat)*c 2=(x0:Rat):=e0;have e1:(a1:Rat)*c 1+(b1:Rat)*c 2=(x1:Rat):=e1;have e2:(a2:Rat)*c 1+(b2:Rat)*c 2=(x2:Rat):=e2;have hz:a1*b2-a2*b1≠0:=hz;have hd:Zx (bsM 3 [[a0,a1,a2],[b0,b1,b2]]) 3=0+1*(a1*b2-a2*b1)+0*(a2*b0-a0*b2)+0*(a0*b1-a1*b0):=rfl;have hd2:Zx (bsM 3 [[a0,a1,a2],[b0,b1,b2]]) 3=a1*b2-a2*b1:=by rw [hd];omega
 refine ⟨by rw [hd2];exact hz,λi hi => ?_⟩;rw [hd2,Rat.intCast_sub,Rat.intCast_mul,Rat.intCast_mul]
 rcases (show i=0\/i=1\/i=2 by omega) with rfl | rfl | rfl
 ·have h1:Zx ((bsM 3 [[a0,a1,a2],[b0,b1,b2]]).set 0 [x0,x1,x2]) 3=0+x0*(a1*b2-a2*b1)+x1*(a2*b0-a0*b2)+x2*(a0*b1-a1*b0):=rfl;rw [h1];simp only [Rat.intCast_add,Rat.intCast_sub,Rat.intCast_mul,Rat.intCast_zero,<-e0,<-e1,<-e2]
  grind
 ·have h1:Zx ((bsM 3 [[a0,a1,a2],[b0,b1,b2]]).set 1 [x0,x1,x2]) 3=0+1*(x1*b2-x2*b1)+0*(x2*b0-x0*b2)+0*(x0*b1-x1*b0):=rfl;rw [h1];simp only [Rat.intCast_add,Rat.intCast_sub,Rat.intCast_mul,Rat.intCast_zero,Rat.intCast_one,<-e0,<-e1,<-e2]
  grind
 ·have h1:Zx ((bsM 3 [[a0,a1,a2],[b0,b1,b2]]).set 2 [x0,x1,x2]) 3=0+1*(a1*x2-a2*x1)+0*(a2*x0-a0*x2)+0*(a0*x1-a1*x0):=rfl;rw [h1];simp only [Rat.intCast_add,Rat.intCast_sub,Rat.intCast_mul,Rat.intCast_zero,Rat.intCast_one,<-e0,<-e1,<-e2]
  grind
theorem Kj5 {a b:Int} {c:Rat} (hb:b≠0) (h:((a:Int):Rat)=c*((b:Int):Rat)):((a:Int):Rat)/((b:Int):Rat)=c:=by
 rw [h];exact Rat.mul_div_cancel (Yf hb)
theorem Knx {n:Nat} {F:Mx} {x:List Int} (h:Ku n F) (hx:x.length=n) (i:Nat):Ku n (F.set i x):=λr hr=>by
 rcases List.mem_or_eq_of_mem_set hr with h1 | h1
 ·exact h r h1
 ·rw [h1];exact hx
theorem Ki5 {F:Mx} {x:List Int} {B:Nat} (h : ∀r∈F,∀z∈r,z.natAbs<=B) (hx : ∀z∈x,z.natAbs<=B) (i:Nat) : ∀r∈F.set i x,∀z∈r,z.natAbs<=B:=λr hr=>by
 rcases List.mem_or_eq_of_mem_set hr with h1 | h1
 ·exact h r h1
 ·rw [h1];exact hx
theorem Kds {n:Nat} {M:Mx} (hn:0<n) (h : ∀r∈M,∀z∈r,z.natAbs<=8) : ∀r∈bsM n M,∀z∈r,z.natAbs<=1000000:=λr hr z hz=>by
 rcases List.mem_cons.1 hr with rfl | hr
 ·obtain ⟨i,hi,rfl⟩:=List.getElem_of_mem hz;rw [<-Ka hi,Xt hn];split<;>simp
 ·have:=h r hr z hz;omega
def KcY (n:Nat) (F:Mx):Int:=if n=2 then JA F else Zx F 3
theorem Kmj {n:Nat} {M:Mx} {v x:List Int} {c:Nat->Rat} (h:BkM n M v) (hx:x.length=n) (hc:CoV n M (λi=>((x.getD i 0:Int):Rat)) c) :
  KcY n (bsM n M)≠0 /\ ∀i,i<n->((KcY n ((bsM n M).set i x):Int):Rat)/((KcY n (bsM n M):Int):Rat)=c i:=by
 rcases h.hn with rfl | rfl
 ·obtain ⟨h1,h2⟩:=Koe h hx hc;exact ⟨h1,λi hi=>Kj5 h1 (h2 i hi)⟩
 ·obtain ⟨h1,h2⟩:=Kof h hx hc;exact ⟨h1,λi hi=>Kj5 h1 (h2 i hi)⟩
theorem Kf6 {n:Nat} {F:Mx} (h : ∀r∈F,∀z∈r,z.natAbs<=1000000):(KcY n F).natAbs<=6000000000000000000:=by
 unfold KcY;split
 ·have m1:=KcG (YL h 0 0) (YL h 1 1);have m2:=KcG (YL h 0 1) (YL h 1 0);unfold JA;omega
 ·have m1:=KdF h 0 1 2;have m2:=KdF h 1 2 0;have m3:=KdF h 2 0 1;show (0+dt3 F 0 1 2+dt3 F 1 2 0+dt3 F 2 0 1).natAbs<=_;omega
theorem Kqm (r:Rat):r*((r.den:Nat):Rat)=((r.num:Int):Rat):=by
 have h:=Rat.num_divInt_den r;rw [Rat.divInt_eq_div] at h;have h0:((r.den:Nat):Rat)≠0:=by exact_mod_cast r.den_nz
 have h1:(((r.den:Nat):Int):Rat)=((r.den:Nat):Rat):=rfl;rw [h1] at h
 conv=>lhs;lhs;rw [<-h]
 exact Rat.div_mul_cancel h0
theorem JZ {n:Nat} {M:Mx} {v:List Int} (h:BkM n M v) {r:Rat} (hr : ∀z∈v,∃k:Int,r*((z:Int):Rat)=((k:Int):Rat)) : ∃k:Int,r=((k:Int):Rat):=by
 have hd0:(r.den:Int)≠0:=by have:=r.den_nz;omega
 have h3:=Kqm r;have hc:(((r.den:Nat):Int):Rat)=((r.den:Nat):Rat):=rfl;have h0:((r.den:Nat):Rat)≠0:=by exact_mod_cast r.den_nz
 have h1:(r.den:Int)∣r.num:=KhL h.gcd (λz hz=>by
  obtain ⟨k,hk⟩:=hr z hz;refine ⟨k,?_⟩
  have h2:((z*r.num:Int):Rat)=(((r.den:Int)*k:Int):Rat):=by
   rw [Rat.intCast_mul,Rat.intCast_mul,<-hk,<-h3,hc]
   grind
  exact Rat.intCast_inj.1 h2) hd0
 obtain ⟨k,hk⟩:=h1;refine ⟨k,?_⟩;have h4:((r.num:Int):Rat)=((r.den:Nat):Rat)*((k:Int):Rat):=by rw [hk,Rat.intCast_mul,hc]
 grind
theorem Kgv {n:Nat} {M:Mx} {v:List Int} (h:BkM n M v) {P:Int->Prop} (hP : ∀i,i<n->P (v.getD i 0)) : ∀z∈v,P z:=λz hz=>by
 obtain ⟨i,hi,rfl⟩:=List.getElem_of_mem hz;rw [<-Ka hi];exact hP i (by rw [h.vlen] at hi;exact hi)
theorem BkM.ints {n:Nat} {M:Mx} {v:List Int} (h:BkM n M v) {y:Nat->Int} {d:Nat->Rat} (hd:CoV n M (λi=>((y i:Int):Rat)) d) (hs:KD (λi=>v.getD i 0*y i) n=0) : ∃q:Nat->Int,∀j,j<n->d j=((q j:Int):Rat):=by
 have h0:d 0=0:=by
  have h1:=h.first hd;have h2:=KaE (λi=>v.getD i 0*y i) n;rw [hs,Qt (g:=λi=>((v.getD i 0:Int):Rat)*((y i:Int):Rat)) n (λk _=>Rat.intCast_mul _ _)] at h2;rw [<-h2] at h1;exact QC (Yf (show v.getD 0 0≠0 by have:=h.pos;omega)) (by rw [h1,Rat.intCast_zero];grind)
 obtain ⟨s,hs1,hsg⟩:=h.sgn
 rcases h.hn with rfl | rfl
 ·obtain ⟨e0,e1⟩:=hd.e2;rw [h0] at e0
  obtain ⟨k,hk⟩:=JZ h (r:=d 1) (Kgv h (P:=λz => ∃k:Int,d 1*((z:Int):Rat)=((k:Int):Rat)) (λi hi=>by
   rcases (show i=0\/i=1 by omega) with rfl | rfl
   ·refine ⟨s*(0-y 1),?_⟩;rw [hsg,Kb2,if_pos rfl];simp only [Rat.intCast_mul,Rat.intCast_sub];rw [<-e1];grind
   ·refine ⟨s*y 0,?_⟩;rw [hsg,Kb2,if_neg (by omega),if_pos rfl];simp only [Rat.intCast_mul]
    rw [<-e0];grind))
  refine ⟨λj=>if j=0 then 0 else k,λj hj => ?_⟩
  rcases (show j=0\/j=1 by omega) with rfl | rfl
  ·rw [h0];rfl
  ·exact hk
 ·obtain ⟨e0,e1,e2⟩:=hd.e3;rw [h0] at e0;obtain ⟨m0,m1,m2⟩:=Kc0 M
  obtain ⟨k1,hk1⟩:=JZ h (r:=d 1) (Kgv h (P:=λz => ∃k:Int,d 1*((z:Int):Rat)=((k:Int):Rat)) (λi hi=>by
   rcases (show i=0\/i=1\/i=2 by omega) with rfl | rfl | rfl
   ·refine ⟨s*(y 1*eM M 1 2-y 2*eM M 1 1),?_⟩;rw [hsg,m0];simp only [Rat.intCast_mul,Rat.intCast_sub];rw [<-e1,<-e2];grind
   ·refine ⟨s*(y 2*eM M 1 0-y 0*eM M 1 2),?_⟩;rw [hsg,m1];simp only [Rat.intCast_mul,Rat.intCast_sub];rw [<-e0,<-e2];grind
   ·refine ⟨s*(y 0*eM M 1 1-y 1*eM M 1 0),?_⟩;rw [hsg,m2];simp only [Rat.intCast_mul,Rat.intCast_sub]
    rw [<-e0,<-e1];grind))
  obtain ⟨k2,hk2⟩:=JZ h (r:=d 2) (Kgv h (P:=λz => ∃k:Int,d 2*((z:Int):Rat)=((k:Int):Rat)) (λi hi=>by
   rcases (show i=0\/i=1\/i=2 by omega) with rfl | rfl | rfl
   ·refine ⟨s*(eM M 0 1*y 2-eM M 0 2*y 1),?_⟩;rw [hsg,m0];simp only [Rat.intCast_mul,Rat.intCast_sub];rw [<-e1,<-e2];grind
   ·refine ⟨s*(eM M 0 2*y 0-eM M 0 0*y 2),?_⟩;rw [hsg,m1];simp only [Rat.intCast_mul,Rat.intCast_sub];rw [<-e0,<-e2];grind
   ·refine ⟨s*(eM M 0 0*y 1-eM M 0 1*y 0),?_⟩;rw [hsg,m2];simp only [Rat.intCast_mul,Rat.intCast_sub]
    rw [<-e0,<-e1];grind))
  refine ⟨λj=>if j=0 then 0 else if j=1 then k1 else k2,λj hj => ?_⟩
  rcases (show j=0\/j=1\/j=2 by omega) with rfl | rfl | rfl
  ·rw [h0];rfl
  ·exact hk1
  ·exact hk2
theorem Klg {n:Nat} {M:Mx} {v:List Int} (h:BkM n M v) (O:List Rat) {x y:List Int} {c d:Nat->Rat} (hc:CoV n M (λi=>((x.getD i 0:Int):Rat)) c) (hd:CoV n M (λi=>((y.getD i 0:Int):Rat)) d) (hs:KD (λi=>v.getD i 0*x.getD i 0) n=KD (λi=>v.getD i 0*y.getD i 0) n):rdL n M O y d=rdL n M O x c:=by
 obtain ⟨q,hq⟩:=h.ints (y:=λi=>y.getD i 0-x.getD i 0) ((hd.sub hc).congr (λi _=>(Rat.intCast_sub _ _).symm) (λ_ _=>rfl)) (by
  rw [QM (g:=λi=>v.getD i 0*y.getD i 0-v.getD i 0*x.getD i 0) (λi _=>Int.mul_sub _ _ _),KbE,hs];omega)
 refine Klf h O hc hd (q:=q) λi hi => ?_
 have h1:=(hd.sub hc) i hi;have h2:=CoV.self n M q i hi;rw [Qt (g:=λj=>((eM (bsM n M) j i:Int):Rat)*((q j:Int):Rat)) n (λj hj=>by show _*(d j-c j)=_;rw [hq j hj])] at h1;rw [h2] at h1;have h3:((KD (λj=>q j*eM (bsM n M) j i) n:Int):Rat)=((y.getD i 0-x.getD i 0:Int):Rat):=by rw [Rat.intCast_sub];exact h1
 have h4:=Rat.intCast_inj.1 h3;omega
theorem KcQ.uni {n:Nat} {M:Mx} {O:List Rat} {v:List Int} {L K:Mx} (h:BkM n M v) (hL:KcQ n M O v L) (hK:KcQ n M O v K) (hl:L.length=K.length):L=K:=by
 refine List.ext_getElem hl λk h1 h2 => ?_
 obtain ⟨x,c,_,hc,hx,e1⟩:=hL k h1;obtain ⟨y,d,_,hd,hy,e2⟩:=hK k h2;rw [e1,e2];exact Klg h O hd hc (by rw [hx,hy])
def KhC (s m k t:Nat):Rat:=((-(((k/s^(m-1-t))%s:Nat):Int):Int):Rat)/(((s:Nat):Int):Rat)
def YX (s m k:Nat):List Rat:=(List.range m).map (KhC s m k)
@[simp] theorem Z6 (s m k:Nat):(YX s m k).length=m:=by simp [YX]
theorem Kb7 {s m k t:Nat} (h:t<m):(YX s m k).getD t 0=KhC s m k t:=by
 unfold YX;rw [List.getD_eq_getElem?_getD,List.getElem?_map,List.getElem?_range h];rfl
theorem Kqb {s m k t:Nat} (hs:0<s) : -12<=KhC s m k t/\KhC s m k t<=12:=by
 have h1:(k/s^(m-1-t))%s<s:=Nat.mod_lt _ hs;unfold KhC;generalize (k/s^(m-1-t))%s=r at *;have hS:((1:Int):Rat)<=((s:Int):Rat):=Rat.intCast_le_intCast.2 (by omega);have e1:((1:Int):Rat)=1:=rfl;rw [e1] at hS;have hq:((s:Int):Rat)≠0:=Yf (by omega);have hd:=Rat.div_mul_cancel (a:=((-(r:Int):Int):Rat)) hq;have hr0:((-(s:Int):Int):Rat)<=((-(r:Int):Int):Rat):=Rat.intCast_le_intCast.2 (by omega);have hr1:((-(r:Int):Int):Rat)<=((0:Int):Rat):=Rat.intCast_le_intCast.2 (by omega);rw [Rat.intCast_neg] at hr0;rw [Rat.intCast_zero] at hr1;generalize ((-(r:Int):Int):Rat)/((s:Int):Rat)=x at *;generalize ((s:Int):Rat)=S at *;generalize ((-(r:Int):Int):Rat)=y at *;constructor
 ·refine Rat.not_lt.1 λhlt => ?_
  have p:0<=(-1-x)*S:=Rat.mul_nonneg (by grind) (by grind);have p2:0<=(-12-x)*S:=Rat.mul_nonneg (by grind) (by grind)
  grind
 ·refine Rat.not_lt.1 λhlt => ?_
  have p:0<=(x-12)*S:=Rat.mul_nonneg (by grind) (by grind)
  grind
theorem KoL {s m k t:Nat} (hs:0<s) (h8:s<=8):NdQ 100 (KhC s m k t):=by
 have h1:(k/s^(m-1-t))%s<s:=Nat.mod_lt _ hs;exact NdQ.mk (Kbt (by omega)) (Nat.le_trans (Kv (E:=30) (by omega)) (by omega)) (Nat.le_trans (Kv (E:=30) (by omega)) (by omega))
theorem KhA {s m k:Nat} (hs:0<s) (h8:s<=8) : ∀x∈YX s m k,NdQ 100 x:=λx hx=>by
 obtain ⟨t,_,rfl⟩:=List.mem_map.1 hx;exact KoL hs h8
theorem KhB {s m k:Nat} (hs:0<s) (j:Nat) : -12<=QQ (YX s m k) j/\QQ (YX s m k) j<=12:=by
 unfold QQ;split
 ·constructor<;>decide
 ·by_cases h:j-1<m
  ·rw [Kb7 h];exact Kqb hs
  ·rw [List.getD_eq_getElem?_getD,List.getElem?_eq_none (by simp;omega)];show -12<=(0:Rat)/\(0:Rat)<=12;constructor<;>decide
def lyL (O:List Rat) (m j:Nat):List (Value×Value):=(List.range m).map λt=>if j<=t then qv (qR (O.getD t 0)) else (.string ⟨#[]⟩,.string ⟨#[]⟩)
@[simp] theorem Kp2 (O:List Rat) (m j:Nat):(lyL O m j).length=m:=by simp [lyL]
theorem Kdd {O:List Rat} {m j t:Nat} (h:t<(lyL O m j).length):(lyL O m j)[t]=if j<=t then qv (qR (O.getD t 0)) else (.string ⟨#[]⟩,.string ⟨#[]⟩):=by simp [lyL]
theorem Kk3 (O:List Rat) (m:Nat):List.replicate m (Value.string ⟨#[]⟩,Value.string ⟨#[]⟩)=lyL O m m:=by
 refine List.ext_getElem (by simp) λt h1 h2 => ?_
 have ht:t<m:=by simpa using h2
 rw [List.getElem_replicate,Kdd,if_neg (by omega)]
theorem Km3 {O:List Rat} {m j:Nat}:(lyL O m (j+1)).set j (qv (qR (O.getD j 0)))=lyL O m j:=by
 refine List.ext_getElem (by simp) λt h1 h2 => ?_
 rw [List.getElem_set,Kdd,Kdd]
 by_cases e:j=t
 ·subst e;rw [if_pos rfl,if_pos (Nat.le_refl _)]
 ·rw [if_neg e];have:(j+1<=t↔j<=t):=by omega
  simp only [this]
theorem KoH {O:List Rat} {m:Nat} (h:O.length=m):lyL O m 0=O.map λr=>qv (qR r):=by
 refine List.ext_getElem (by simp [h]) λt h1 h2 => ?_
 have ht:t<O.length:=by simpa using h2
 rw [Kdd,if_pos (Nat.zero_le _),List.getElem_map,List.getD_eq_getElem?_getD,List.getElem?_eq_getElem ht];rfl
def ovL (Q O:List Rat) (m j:Nat):List Rat:=(List.range m).map λt=>if j<=t then O.getD t 0 else Q.getD t 0
@[simp] theorem Kqf (Q O:List Rat) (m j:Nat):(ovL Q O m j).length=m:=by simp [ovL]
theorem Kde {Q O:List Rat} {m j t:Nat} (h:t<(ovL Q O m j).length):(ovL Q O m j)[t]=if j<=t then O.getD t 0 else Q.getD t 0:=by simp [ovL]
theorem Kk9 {Q:List Rat} (O:List Rat) {m:Nat} (h:Q.length=m):Q=ovL Q O m m:=by
 refine List.ext_getElem (by simp [h]) λt h1 h2 => ?_
 have ht:t<m:=by simpa using h2
 rw [Kde,if_neg (by omega),List.getD_eq_getElem?_getD,List.getElem?_eq_getElem h1];rfl
theorem Knc {Q O:List Rat} {m j:Nat}:(ovL Q O m (j+1)).set j (O.getD j 0)=ovL Q O m j:=by
 refine List.ext_getElem (by simp) λt h1 h2 => ?_
 rw [List.getElem_set,Kde,Kde]
 by_cases e:j=t
 ·subst e;rw [if_pos rfl,if_pos (Nat.le_refl _)]
 ·rw [if_neg e];have:(j+1<=t↔j<=t):=by omega
  simp only [this]
theorem KoN {Q O:List Rat} {m:Nat} (h:O.length=m):ovL Q O m 0=O:=by
 refine List.ext_getElem (by simp [h]) λt h1 h2 => ?_
 rw [Kde,if_pos (Nat.zero_le _),List.getD_eq_getElem?_getD,List.getElem?_eq_getElem h2];rfl
def KC (D:Nat->Mx):Nat->List Mx
 | 0=>[]
 | k+1=>if D k∈KC D k then KC D k else KC D k++[D k]
theorem JV (D:Nat->Mx) : ∀k,(KC D k).length<=k
 | 0=>by simp [KC]
 | k+1=>by
  have:=JV D k;unfold KC;split
  ·omega
  ·simp;omega
theorem JW (D:Nat->Mx) : ∀k,∀F∈KC D k,∃j,j<k/\F=D j
 | 0=>λF hF=>by simp [KC] at hF
 | k+1=>λF hF=>by
  unfold KC at hF;split at hF
  ·obtain ⟨j,h1,h2⟩:=JW D k F hF;exact ⟨j,by omega,h2⟩
  ·rcases List.mem_append.1 hF with h | h
   ·obtain ⟨j,h1,h2⟩:=JW D k F h;exact ⟨j,by omega,h2⟩
   ·exact ⟨k,by omega,List.mem_singleton.1 h⟩
theorem JU {D E:Nat->Mx} : ∀{k},(∀j,j<k->D j=E j)->KC D k=KC E k
 | 0,_=>rfl
 | k+1,h=>by
  unfold KC;rw [JU (λj hj=>h j (by omega)),h k (by omega)]
def KcR (n:Nat) (M:Mx) (vl:List Int) (s m k:Nat) (D:Nat->Mx):Prop := ∀j,j<k->(D j).length=(vl.getD 0 0).toNat/\KcQ n M (YX s m j) vl (D j)
theorem KcR.uni {n:Nat} {M:Mx} {vl:List Int} {s m k:Nat} {D E:Nat->Mx} (h:BkM n M vl) (hD:KcR n M vl s m k D) (hE:KcR n M vl s m k E):KC D k=KC E k :=
 JU λj hj=>(hD j hj).2.uni h (hE j hj).2 (by rw [(hD j hj).1,(hE j hj).1])
def upD (D:Nat->Mx) (k:Nat) (F:Mx) (j:Nat):Mx:=if j=k then F else D j
theorem Ko9 {D:Nat->Mx} {k:Nat} {F:Mx}:KC (upD D k F) k=KC D k:=JU λj hj=>by unfold upD;rw [if_neg (by omega)]
theorem Kqz {D:Nat->Mx} {k:Nat} {F:Mx}:upD D k F k=F:=if_pos rfl
theorem KdJ {D:Nat->Mx} {k:Nat} {F:Mx}:KC (upD D k F) (k+1)=if F∈KC D k then KC D k else KC D k++[F]:=by
 show (if upD D k F k∈KC (upD D k F) k then _ else _)=_;rw [Ko9,Kqz]
theorem KcR.step {n:Nat} {M:Mx} {vl:List Int} {s m k:Nat} {D:Nat->Mx} {F:Mx} (h:KcR n M vl s m k D) (h1:F.length=(vl.getD 0 0).toNat) (h2:KcQ n M (YX s m k) vl F):KcR n M vl s m (k+1) (upD D k F):=λj hj=>by
 unfold upD
 by_cases e:j=k
 ·subst e;rw [if_pos rfl];exact ⟨h1,h2⟩
 ·rw [if_neg e];exact h j (by omega)
theorem Kbn {A B:Mx} (hl:A.length=B.length) (h : ∀j,j<A.length->A.getD j []=B.getD j []):A=B:=by
 refine List.ext_getElem hl λj h1 h2 => ?_
 have:=h j h1;rwa [Ka h1,Ka h2] at this
theorem Kg5 {w:World} {va vb:Value} {A B:Mx} (hA:KJ w va A) (hB:KJ w vb B) (hbig:A.length<=1000000) (hbr : ∀r∈A,r.length<=1000000) :
  Calls Tryz.prog 19 #[va,vb,.func (.func 20) #[] #[]] w λe w'=>e = .returned (.bool (decide (A=B)))/\Ext w w':=by
 obtain ⟨sa,ga,oa,ca,va',rfl,hca,hvA,hSa,hrA⟩:=hA;obtain ⟨sb,gb,ob,cb,vb',rfl,hcb,hvB,hSb,hrB⟩:=hB
 by_cases hl:A.length=B.length
 ·obtain ⟨n,hn⟩ : ∃n,n=A.length:=⟨_,rfl⟩
  rw [<-hl];rw [<-hn] at hbig ⊢;have HA:=hid hSa;have HB:=hid hSb;have HvA:=hid hvA;have HvB:=hid hvB;have HrA:=hid hrA;have HrB:=hid hrB;have Hn:=hid hn;have Hm:=hid (hn.trans hl);have Hbr:=hid hbr;clear hSa hSb hl hn hca hcb hvA hvB hrA hrB hbr
  go_enter Tryz.func19,Tryz.ntmps19
  go_wp2_with fail
  go_loopw [17] (λidx wr => ∃i:Nat,i<=n/\idx = .int .i64 i/\Hid (∀j,j<i->A.getD j []=B.getD j [])/\Ext w wr) (λidx _=>n-(intOf idx).toNat)
  case atStart=>exact ⟨0,by omega,by go_num,hid (λj h=>by omega),Ext.refl _⟩
  case round =>
   obtain ⟨i,hi,rfl,Hz,hE⟩:=hrel;generalize wr=X at *
   by_cases hlt:i<n
   ·have hii:(i:Int)<(n:Int):=by omega
    have hiA:i<A.length:=by rw [<-Hn.out];exact hlt
    have hiB:i<B.length:=by rw [<-Hm.out];exact hlt
    obtain ⟨sx,bx,ox,cx,hrx,hcx,hSx⟩:=KJ.row HA.out HvA.out HrA.out hiA;obtain ⟨sy,by',oy,cy,hry,hcy,hSy⟩:=KJ.row HB.out HvB.out HrB.out hiB;obtain rfl:=HA.out.addr (by rw [HvA.out];omega);obtain rfl:=HB.out.addr (by rw [HvB.out];omega);have k1:=hE.cell hrx;have k2:=hE.cell hry;have hx1:KT X (.slice sx A[i].length cx) A[i]:=⟨sx,bx,ox,cx,rfl,hcx,hSx.ext hE⟩
    have hy1:KT X (.slice sy B[i].length cy) B[i]:=⟨sy,by',oy,cy,rfl,hcy,hSy.ext hE⟩
    obtain ⟨lx,hlx⟩ : ∃l,l=A[i].length:=⟨_,rfl⟩
    obtain ⟨ly,hly⟩ : ∃l,l=B[i].length:=⟨_,rfl⟩
    rw [<-hlx] at k1 hx1;rw [<-hly] at k2 hy1;clear hlx hly;have hEQ:=hid (Kgo hx1 hy1 (Hbr.out _ (List.getElem_mem hiA)));have HxA:=hid (show A.getD i []=A[i] from Ka hiA []);have HxB:=hid (show B.getD i []=B[i] from Ka hiB []);obtain ⟨q,hq⟩ : ∃q,q=decide (A[i]=B[i]):=⟨_,rfl⟩
    rw [<-hq] at hEQ;have Hq:=hid hq;clear hrx hry hcx hcy hSx hSy hq hx1 hy1
    cases q
    ·have Hne:=hid (show decide (A=B)=false from decide_eq_false (λe=>by
      have:=Hq.out.symm;rw [decide_eq_false_iff_not] at this
      exact this (by rw [<-HxA.out,<-HxB.out,e])))
     clear Hq HxA HxB;go_wp2_with fail;refine hEQ.out.mono ?_;rintro e W6 ⟨rfl,hE6⟩;have hE2:=hE.trans hE6;clear k1 k2 hEQ;go_wp2_with fail;go_ret;exact ⟨by rw [Hne.out];rfl,hE2⟩
    ·have Hok:=hid (show A.getD i []=B.getD i [] by rw [HxA.out,HxB.out];exact of_decide_eq_true Hq.out.symm)
     have Hz2:=hid (show ∀j,j<i+1->A.getD j []=B.getD j [] from λj hj=>by
      by_cases e:j=i
      ·subst e;exact Hok.out
      ·exact Hz.out j (by omega))
     clear Hq HxA HxB;go_wp2_with fail;refine hEQ.out.mono ?_;rintro e W6 ⟨rfl,hE6⟩;have hE2:=hE.trans hE6;clear k1 k2 hEQ;go_wp2_with fail;go_roundw
     case rel=>exact ⟨i+1,by omega,by go_num,Hz2,hE2⟩
     case measure=>simp [intOf]<;>omega
   ·have Heq:=hid (show decide (A=B)=true from decide_eq_true (Kbn (by rw [<-Hn.out,<-Hm.out]) (λj hj=>Hz.out j (by rw [<-Hn.out] at hj;omega))));go_wp2_with fail;go_ret;exact ⟨by rw [Heq.out];rfl,hE⟩
 ·have hne:decide (A=B)=false:=decide_eq_false (λe=>hl (by rw [e]));rw [hne];have h1 : ¬((A.length:Int)=(B.length:Int)):=by omega
  have h2:((A.length:Int)==(B.length:Int))=false:=beq_eq_false_iff_ne.2 h1;have h3:((A.length:Int) != (B.length:Int))=true:=by simp [bne,h2]
  clear hSa hSb hca hcb hne hvA hvB hrA hrB hbr;generalize A.length=n at *;generalize B.length=m at *
  go_enter Tryz.func19,Tryz.ntmps19
  go_wp2_with fail;go_ret;exact ⟨rfl,Ext.refl _⟩
theorem KmC {w:World} {va vb:Value} {b:Nat} {A B:Mx} (hA:KJ w va A) (hc:w.cell? ⟨b,0,none⟩=some vb) (hB:KJ w vb B) (hbig:A.length<=1000000) (hbr : ∀r∈A,r.length<=1000000) :
  Calls Tryz.prog 18 #[va,.pointer (some ⟨b,0,none⟩)] w λe w'=>e = .returned (.bool (decide (A=B)))/\Ext w w':=by
 have h:=hid (Kg5 hA hB hbig hbr);obtain ⟨sb,gb,ob,cb,vb',rfl,_⟩:=hB;clear hA hbr
 go_enter Tryz.func18,Tryz.ntmps18
 go_wp2_with fail;refine h.out.mono ?_;rintro e W ⟨rfl,hE⟩;go_wp2_with fail;go_ret;exact ⟨rfl,hE⟩
theorem KkU {w:World} {b:Nat} {sa:Option Addr} {gb go cap:Nat} {vs:List Value} {p:Nat->Bool} {k:Int} (hS:Sl w sa gb go vs) (hl:vs.length<=1000000)
  (hF : ∀i (h:i<vs.length) W,Ext w W->Calls Tryz.prog 18 #[vs[i],.pointer (some ⟨b,0,none⟩)] W λe w'=>e = .returned (.bool (p i))/\Ext W w') (hk:IxR p vs.length k) :
  Calls Tryz.prog 36 #[.slice sa vs.length cap,.func (.func 18) #[] #[.pointer (some ⟨b,0,none⟩)]] w λe w'=>e = .returned (.int .i64 k)/\Ext w w':=by
 have HF:=hid hF;have HK:=hid hk;have HS:=hid hS;clear hF hk hS
 go_enter Tryz.func36,Tryz.ntmps36
 go_wp2_with fail
 go_loopw [8] (λidx wr => ∃i:Nat,i<=vs.length/\idx = .int .i64 i/\Hid (∀j,j<i->p j=false)/\Ext w wr) (λidx _=>vs.length-(intOf idx).toNat)
 case atStart=>exact ⟨0,by omega,by go_num,hid (λj h=>by omega),Ext.refl _⟩
 case round =>
  obtain ⟨i,hi,rfl,Hp,hE⟩:=hrel;generalize wr=X at *
  by_cases hlt:i<vs.length
  ·have hii:(i:Int)<(vs.length:Int):=by omega
   obtain ⟨u,hu⟩ : ∃u,u=vs[i]:=⟨_,rfl⟩
   have hc:=hE.cell (HS.out.cell i u (by rw [hu];exact List.getElem?_eq_getElem hlt));obtain rfl:=HS.out.addr (by omega);have hf:=HF.out i hlt X hE;rw [<-hu] at hf;have Hf:=hid hf;clear hf hu
   cases hpi:p i
   ·rw [hpi] at Hf;have Hpi:=hid hpi;clear hpi;go_wp2_with fail;refine Hf.out.mono ?_;rintro e W ⟨rfl,hE2⟩;go_wp2_with fail;go_roundw
    case rel=>exact ⟨i+1,by omega,by go_num,hid (λj hj=>by
     by_cases e:j=i
     ·subst e;exact Hpi.out
     ·exact Hp.out j (by omega)),hE.trans hE2⟩
    case measure=>simp [intOf]<;>omega
   ·rw [hpi] at Hf;have Hki:=hid (JH HK.out hlt hpi Hp.out);clear hpi;go_wp2_with fail;refine Hf.out.mono ?_;rintro e W ⟨rfl,hE2⟩;go_wp2_with fail;go_ret;exact ⟨by rw [Hki.out];rfl,hE.trans hE2⟩
  ·have Hki:=hid (JI HK.out (λj hj=>Hp.out j (by omega)));go_wp2_with fail;go_ret;exact ⟨by rw [Hki.out];rfl,hE⟩
theorem Kf2 {w:World} {b:Nat} {sa:Option Addr} {gb go cap:Nat} {vs:List Value} {p:Nat->Bool} (hS:Sl w sa gb go vs) (hl:vs.length<=1000000)
  (hF : ∀i (h:i<vs.length) W,Ext w W->Calls Tryz.prog 18 #[vs[i],.pointer (some ⟨b,0,none⟩)] W λe w'=>e = .returned (.bool (p i))/\Ext W w') :
  Calls Tryz.prog 17 #[.slice sa vs.length cap,.func (.func 18) #[] #[.pointer (some ⟨b,0,none⟩)]] w λe w'=>e = .returned (.bool (JJ p vs.length))/\Ext w w':=by
 obtain ⟨k,hk⟩:=KbP p vs.length;have Hge:=hid (Kdm hk);have HI:=hid (KkU (cap:=cap) hS hl hF hk);clear hS hF hk
 go_enter Tryz.func17,Tryz.ntmps17
 go_wp2_with fail;refine HI.out.mono ?_;rintro e W ⟨rfl,hE⟩;go_wp2_with fail;go_ret;exact ⟨by rw [<-Hge.out];rfl,hE⟩
theorem Tryz.infoRows:(Tryz.prog.info? 30).map (λi=>(i.zero,i.size,i.bytes))=some (some (.slice none 0 0),1,24):=by kernel_rfl
def QP (B:Nat) (w:World) (v:Value) (G:List Mx):Prop := ∃vs,vs.length=G.length/\w.ownsRow B 30 1 v G.length vs /\ ∀t (_:t<G.length) (h':t<vs.length),Qk B w vs[t] G[t]
theorem QP.nil (B:Nat) (w:World):QP B w (.slice none 0 0) []:=⟨[],rfl,⟨rfl,.inl ⟨rfl,rfl⟩⟩,λt h=>by simp at h⟩
theorem QP.ext {B:Nat} {w w':World} {v:Value} {G:List Mx} (h:QP B w v G) (he:Ext w w'):QP B w' v G:=by
 obtain ⟨vs,h1,h2,h3⟩:=h;exact ⟨vs,h1,KU h2 he,λt ht ht'=>(h3 t ht ht').ext he⟩
theorem QP.mono {B B':Nat} {w:World} {v:Value} {G:List Mx} (h:QP B w v G) (hB:B'<=B):QP B' w v G:=by
 obtain ⟨vs,h1,h2,h3⟩:=h;exact ⟨vs,h1,QV h2 hB,λt ht ht'=>(h3 t ht ht').mono hB⟩
theorem Kbm {B B':Nat} {w w':World} {T':TypeId} {size' n':Nat} {u v:Value} {F:Mx} {ys:List Value} (h:Qk B w u F) (h':w.ownsRow B' T' size' v n' ys) (h1:38≠T') (h2:3≠T') (hg:w.grownBy w' v.ownBlock):Qk B w' u F:=by
 obtain ⟨vs,k1,k2,k3⟩:=h;exact ⟨vs,k1,Ks k2 h' h1 hg,λt ht ht'=>Ks (k3 t ht ht') h' h2 hg⟩
theorem Qk.one {B:Nat} {w:World} {v:Value} {F:Mx} (h:Qk B w v F):v.oneCell'=true:=by
 obtain ⟨vs,k1,k2,k3⟩:=h
 rcases k2.2 with ⟨rfl,_⟩ | ⟨g,cap,cur,rfl,_⟩<;>rfl
section
variable {w:World} {ops:Array Oper} {rest:List Oper} {o:Oper} {a:Act} {Q:Exit->Act->World->Prop}
theorem KgG (hgd:o.guard=none) (s x:Operand) (ho:o.op = .call { callee := .builtin .append,args := #[s,x],argTypes := #[41,41] })
  {B:Nat} {v rv:Value} {G:List Mx} {F:Mx} (hs:a.eval s=v) (hown:QP B w v G) {b:Nat} (hx:a.eval x = .slice (some ⟨b,0,none⟩) 1 1) (hc:w.cell? ⟨b,0,none⟩=some rv) (hr:Qk B w rv F) (hl:G.length<=1000000000) (hB:B<=w.heap.size)
  (h : ∀g cap w',QP B w' (slv g (G.length+1) cap) (G++[F])->Below B w w'->w.grownBy w' v.ownBlock->wpList Tryz.prog ops Q rest (a.put o.dst (slv g (G.length+1) cap)) w'):wpList Tryz.prog ops Q (o::rest) a w:=by
 obtain ⟨i0,hi,hz0,hz1,hz2⟩:=info_parts Tryz.infoRows;obtain ⟨vs,h1,h2,h3⟩:=hown;refine wpList_append_lies w hgd s x 41 ho B 30 i0 _ 1 24 Tryz.underlying41 hi hz0 hz1 hz2 rfl (by omega) v G.length vs hs h2 ⟨b,0,none⟩ 1 1 [rv] hx rfl ?_ ?_ (by omega) (by unfold maxLen;omega) (by omega) hB w.heap.size rfl ?_
 ·intro j u hj;have:j=0:=by have:=(List.getElem?_eq_some_iff.1 hj).1;simp at this;omega
  subst this;simp only [List.getElem?_cons_zero,Option.some.injEq] at hj;subst hj;simpa [Addr.add_lit] using hc
 ·intro u hu;simp only [List.mem_cons,List.not_mem_nil,or_false] at hu;subst hu;exact hr.one
 ·intro g cap w' k1 k2 k3 k4;have hkeep : ∀{u:Value} {F:Mx},Qk B w u F->Qk B w' u F:=λhu=>Kbm hu h2 (by decide) (by decide) k2
  refine h g cap w' ⟨vs++[rv],by simp [h1],?_,λt ht ht' => ?_⟩ (Below.grown (Below.refl _ _) k2 hB (λq hq=>(World.ownsRow.lt h2 q hq).1)) k2
  ·rw [List.length_append];exact k1
  ·rcases Nat.lt_or_ge t G.length with hlt | hge
   ·rw [List.getElem_append_left (by omega),List.getElem_append_left hlt];exact hkeep (h3 t hlt (by omega))
   ·have hte:t=G.length:=by simp at ht;omega
    subst hte;rw [List.getElem_append_right (by omega),List.getElem_append_right (by omega)];simp only [h1,Nat.sub_self,List.getElem_cons_zero];exact hkeep hr
end
end
end Go.Proofs.YtdmaofimeknkbaaGreatDoor
