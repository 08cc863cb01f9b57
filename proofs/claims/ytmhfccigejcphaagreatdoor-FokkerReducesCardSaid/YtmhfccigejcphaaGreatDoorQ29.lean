/- Part 29 of the proof of the claim: contracts of the functions that it reaches, and plain laws; no condition. -/
import Derived.Test.YtmhfccigejcphaaGreatDoorQ09
import Derived.Test.YtmhfccigejcphaaGreatDoorQ28
set_option maxRecDepth 100000
set_option maxHeartbeats 20000000
namespace Go.Proofs.YtmhfccigejcphaaGreatDoor
section
structure Qd where
 x:Int
 y:Int
 z:Int
 u:Int
def Rs (p m:Int):Prop:=(0<p/\0<=m/\m<p)\/(p<0/\p<m/\m<=0)
theorem ZE (a:Int) {p:Int} (hp:p≠0):Rs p (a.fmod p):=by
 rcases Int.lt_or_gt_of_ne hp with h | h
 ·obtain ⟨_,h2,h3⟩:=(Int.fdiv_fmod_unique' (a:=a) (b:=p) (r:=a.fmod p) (q:=a.fdiv p) h).1 ⟨rfl,rfl⟩;exact .inr ⟨h,h2,h3⟩
 ·obtain ⟨_,h2,h3⟩:=(Int.fdiv_fmod_unique (a:=a) (b:=p) (r:=a.fmod p) (q:=a.fdiv p) h).1 ⟨rfl,rfl⟩;exact .inl ⟨h,h2,h3⟩
theorem JT {a p q m:Int} (h:m+p*q=a) (hr:Rs p m):a.fmod p=m/\a.fdiv p=q:=by
 rcases hr with ⟨h0,h1,h2⟩ | ⟨h0,h1,h2⟩
 ·have:=(Int.fdiv_fmod_unique (a:=a) h0).2 ⟨h,h1,h2⟩;exact ⟨this.2,this.1⟩
 ·have:=(Int.fdiv_fmod_unique' (a:=a) h0).2 ⟨h,h1,h2⟩;exact ⟨this.2,this.1⟩
theorem fmod_self' {p:Int} (hp:p≠0):p.fmod p=0/\p.fdiv p=1:=JT (by omega) (by unfold Rs;omega)
theorem fmod_zero' {p:Int} (hp:p≠0):(0:Int).fmod p=0/\(0:Int).fdiv p=0:=JT (by simp) (by unfold Rs;omega)
theorem YB (a p:Int):a.fmod p=a-p*a.fdiv p:=by have:=Int.fmod_add_mul_fdiv a p;omega
structure KbC (q p:Qd):Prop where
 ne:p.x≠0
 lx:q.x=0\/p.x.natAbs<=q.x.natAbs
 ly:q.y=0\/p.x.natAbs<=q.y.natAbs
 lz:q.z=0\/p.x.natAbs<=q.z.natAbs
 lu:q.u=0\/p.x.natAbs<=q.u.natAbs
 how:p=q\/(p=⟨q.y,q.x,q.u,q.z⟩/\(q.x=0\/p.x.natAbs<q.x.natAbs))\/(p=⟨q.z,q.u,q.x,q.y⟩/\(q.x=0\/p.x.natAbs<q.x.natAbs))
  \/ (p=⟨q.u,q.z,q.y,q.x⟩/\(q.x=0\/p.x.natAbs<q.x.natAbs)/\(q.y=0\/p.x.natAbs<q.y.natAbs)/\(q.z=0\/p.x.natAbs<q.z.natAbs))
def clq (p:Qd):Qd:=⟨p.x,p.y.fmod p.x,p.z.fmod p.x,p.u-p.z.fdiv p.x*p.y-p.y.fdiv p.x*p.z.fmod p.x⟩
inductive Stp (q q':Qd):Prop
 | un (p:Qd) (hp:KbC q p) (h:q'=clq p) (hn:(clq p).y≠0\/(clq p).z≠0)
 | sp (p:Qd) (hp:KbC q p) (h0:(clq p).y=0) (h1:(clq p).z=0) (h2:(clq p).u.fmod p.x≠0) (h:q'=⟨p.x,(clq p).u,0,(clq p).u⟩)
def Bnd:Nat->Qd->Prop
 | 0,_=>False
 | N+1,q => ∀q',Stp q q'->Bnd N q'
theorem Bnd.mono : ∀{N:Nat} {q:Qd},Bnd N q->Bnd (N+1) q
 | 0,_,h=>h.elim
 | N+1,_,h=>λq' hs=>Bnd.mono (N:=N) (h q' hs)
theorem Bnd.le {N:Nat} {q:Qd} (h:Bnd N q) : ∀d,Bnd (N+d) q
 | 0=>h
 | d+1=>(h.le d).mono
def Low (B:Nat) (q:Qd):Prop := ∃e:Int,(e=q.x\/e=q.y\/e=q.z\/e=q.u)/\e≠0/\e.natAbs<B
theorem KbC.low {q p:Qd} {B:Nat} (h:KbC q p) (hl:Low B q):p.x.natAbs<B:=by
 obtain ⟨e,he,h0,hb⟩:=hl
 rcases he with rfl | rfl | rfl | rfl
 ·rcases h.lx with h1 | h1
  ·exact absurd h1 h0
  ·omega
 ·rcases h.ly with h1 | h1
  ·exact absurd h1 h0
  ·omega
 ·rcases h.lz with h1 | h1
  ·exact absurd h1 h0
  ·omega
 ·rcases h.lu with h1 | h1
  ·exact absurd h1 h0
  ·omega
def Un (q:Qd):Prop:=q.x≠0/\Rs q.x q.y/\Rs q.x q.z/\(q.y≠0\/q.z≠0)
theorem KiR {q p:Qd} (hp:KbC q p) (hn:(clq p).y≠0\/(clq p).z≠0):Un (clq p):=⟨hp.ne,ZE _ hp.ne,ZE _ hp.ne,hn⟩
theorem Kc0 {x y:Int} {B:Nat} (h:Rs x y) (hy:y≠0) (hx:x.natAbs<2*B) (hB:B<=y.natAbs):x.fmod y=x-y:=(JT (q:=1) (by omega) (by unfold Rs at *;omega)).1
section
variable {B N:Nat} (hL : ∀q,Low B q->Bnd N q)
include hL
theorem Kjb {q:Qd} (hU:Un q) (hx:q.x.natAbs<2*B) (hu:q.u=0\/q.x.natAbs<=q.u.natAbs):Bnd (N+1) q:=by
 obtain ⟨x,y,z,u⟩:=q;obtain ⟨h0,hy,hz,hne⟩:=hU;simp only at h0 hy hz hne hx hu;intro q' hs
 have key : ∀p:Qd,KbC ⟨x,y,z,u⟩ p->B<=p.x.natAbs->((clq p).y≠0/\(clq p).y.natAbs<B)\/((clq p).z≠0/\(clq p).z.natAbs<B):=by
  intro p hp hb
  rcases hp.how with h | ⟨h,h1⟩ | ⟨h,h1⟩ | ⟨h,h1,_,_⟩
  ·subst h;exfalso;have a1:=hp.ly;have a2:=hp.lz;simp only at a1 a2 hb;unfold Rs at hy hz;omega
  ·subst h;have hb':B<=y.natAbs:=hb;have hn:y≠0:=hp.ne;have e:=Kc0 hy hn hx hb'
   left
   show x.fmod y≠0/\(x.fmod y).natAbs<B;rw [e];unfold Rs at hy;omega
  ·subst h;have hb':B<=z.natAbs:=hb;have hn:z≠0:=hp.ne;have e:=Kc0 hz hn hx hb'
   right
   show x.fmod z≠0/\(x.fmod z).natAbs<B;rw [e];unfold Rs at hz;omega
  ·subst h;exfalso;have hn:u≠0:=hp.ne;simp only at h1;omega
 rcases hs with ⟨p,hp,rfl,hn⟩ | ⟨p,hp,h1,h2,h3,rfl⟩
 ·by_cases hb:p.x.natAbs<B
  ·exact hL _ ⟨p.x,.inl rfl,hp.ne,hb⟩
  ·rcases key p hp (by omega) with ⟨k1,k2⟩ | ⟨k1,k2⟩
   ·exact hL _ ⟨_,.inr (.inl rfl),k1,k2⟩
   ·exact hL _ ⟨_,.inr (.inr (.inl rfl)),k1,k2⟩
 ·by_cases hb:p.x.natAbs<B
  ·exact hL _ ⟨p.x,.inl rfl,hp.ne,hb⟩
  ·rcases key p hp (by omega) with ⟨k1,_⟩ | ⟨k1,_⟩
   ·exact absurd h1 k1
   ·exact absurd h2 k1
omit hL in
theorem Ki9 {x y z u m n w:Int} (hy0:0<=y) (hz0:0<=z) (hu:u<0) (hy : -u<y) (hz:(z=0/\n=0) \/ -u<z) (hm:u<m/\m<=0) (hn:u<n/\n<=0)
  (h:u*w=u*x-y*z+m*n):x<=w:=by
 refine Classical.byContradiction λhc => ?_
 have h1:0<u*(w-x):=Int.mul_pos_of_neg_of_neg hu (by omega);rw [Int.mul_sub] at h1
 have h2:m*n<=y*z:=by
  rcases hz with ⟨rfl,rfl⟩ | hz
  ·simp
  ·have h3:(-m)*(-n)<=y*z:=Int.mul_le_mul (by omega) (by omega) (by omega) hy0;rwa [Int.neg_mul_neg] at h3
 omega
omit hL in
theorem blk {x y z u m n w:Int} (hxy:Rs x y) (hxz:Rs x z) (hu:u≠0) (hop:(0<x/\u<0)\/(x<0/\0<u)) (hy:u.natAbs<y.natAbs) (hz:(z=0/\n=0)\/u.natAbs<z.natAbs) (hm:Rs u m) (hn:Rs u n)
  (h:u*w=u*x-y*z+m*n):x.natAbs<=w.natAbs:=by
 unfold Rs at *
 rcases hop with ⟨hx,hu⟩ | ⟨hx,hu⟩
 ·have:=Ki9 (x:=x) (y:=y) (z:=z) (u:=u) (m:=m) (n:=n) (w:=w) (by omega) (by omega) hu (by omega) (by omega) (by omega) (by omega) h;omega
 ·have:=Ki9 (x := -x) (y := -y) (z := -z) (u := -u) (m := -m) (n := -n) (w := -w) (by omega) (by omega) (by omega) (by omega) (by omega) (by omega) (by omega) (by rw [Int.neg_mul_neg,Int.neg_mul_neg,Int.neg_mul_neg,Int.neg_mul_neg];exact h);omega
omit hL in
theorem KcP (p:Qd):p.x*(clq p).u=(p.x*p.u-p.y*p.z)+(clq p).y*(clq p).z:=by
 show p.x*(p.u-p.z.fdiv p.x*p.y-p.y.fdiv p.x*p.z.fmod p.x)=_+p.y.fmod p.x*p.z.fmod p.x;rw [YB,YB];generalize p.z.fdiv p.x=a;generalize p.y.fdiv p.x=b
 grind
theorem KlI {q:Qd} (hU:Un q) (hx:q.x.natAbs<2*B):Bnd (N+2) q:=by
 obtain ⟨x,y,z,u⟩:=q;have hU0:=hU;obtain ⟨h0,hy,hz,hne⟩:=hU;simp only at h0 hy hz hne hx
 by_cases hu:u=0\/x.natAbs<=u.natAbs
 ·exact (Kjb hL hU0 hx hu).mono
 intro q' hs
 have key : ∀p:Qd,KbC ⟨x,y,z,u⟩ p->B<=p.x.natAbs->((clq p).y≠0/\(clq p).y.natAbs<B)\/((clq p).z≠0/\(clq p).z.natAbs<B)\/(Un (clq p)/\p.x.natAbs<2*B/\p.x.natAbs<=(clq p).u.natAbs):=by
  intro p hp hb
  rcases hp.how with h | ⟨h,h1⟩ | ⟨h,h1⟩ | ⟨h,h1,h2,h3⟩
  ·subst h;exfalso;have a1:=hp.ly;have a2:=hp.lz;simp only at a1 a2 hb;unfold Rs at hy hz;omega
  ·subst h;have hb':B<=y.natAbs:=hb;have hn:y≠0:=hp.ne;have e:=Kc0 hy hn hx hb'
   left
   show x.fmod y≠0/\(x.fmod y).natAbs<B;rw [e];unfold Rs at hy;omega
  ·subst h;have hb':B<=z.natAbs:=hb;have hn:z≠0:=hp.ne;have e:=Kc0 hz hn hx hb'
   right;left
   show x.fmod z≠0/\(x.fmod z).natAbs<B;rw [e];unfold Rs at hz;omega
  ·subst h;have hn:u≠0:=hp.ne;have hb':B<=u.natAbs:=hb;simp only at h1 h2 h3;have hdet:=KcP ⟨u,z,y,x⟩;have hm:=ZE y hn;have hm2:=ZE z hn
   by_cases hsg:(0<x/\0<u)\/(x<0/\u<0)
   ·rcases hne with hne | hne
    ·have e:y.fmod u=y-u:=(JT (q:=1) (by omega) (by unfold Rs at *;omega)).1
     right;left
     show y.fmod u≠0/\(y.fmod u).natAbs<B;rw [e];unfold Rs at hy;omega
    ·have e:z.fmod u=z-u:=(JT (q:=1) (by omega) (by unfold Rs at *;omega)).1
     left
     show z.fmod u≠0/\(z.fmod u).natAbs<B;rw [e];unfold Rs at hz;omega
   ·have hop:(0<x/\u<0)\/(x<0/\0<u):=by omega
    right;right
    have hyz:y≠0->y.fmod u≠0:=λh=>by
     have e:y.fmod u=y+2*u:=(JT (q := -2) (by omega) (by unfold Rs at *;omega)).1;rw [e];unfold Rs at hy;omega
    have hzz:z≠0->z.fmod u≠0:=λh=>by
     have e:z.fmod u=z+2*u:=(JT (q := -2) (by omega) (by unfold Rs at *;omega)).1;rw [e];unfold Rs at hz;omega
    refine ⟨KiR hp ?_,by show u.natAbs<_;omega,?_⟩
    ·rcases hne with hne | hne
     ·exact .inr (hyz hne)
     ·exact .inl (hzz hne)
    ·have hw:x.natAbs<=(clq ⟨u,z,y,x⟩).u.natAbs:=by
      by_cases hy0:y=0
      ·have hz0:z≠0:=by omega
       refine blk (y:=z) (z:=y) (m:=z.fmod u) (n:=y.fmod u) hz hy hn hop (by omega) ?_ hm2 hm ?_
       ·left;exact ⟨hy0,by rw [hy0];exact (fmod_zero' hn).1⟩
       ·exact hdet
      ·refine blk (y:=y) (z:=z) (m:=y.fmod u) (n:=z.fmod u) hy hz hn hop (by omega) ?_ hm hm2 ?_
       ·by_cases hz0:z=0
        ·left;exact ⟨hz0,by rw [hz0];exact (fmod_zero' hn).1⟩
        ·right;omega
       ·rw [Int.mul_comm y z,Int.mul_comm (y.fmod u)];exact hdet
     exact Nat.le_trans (show u.natAbs<=x.natAbs by omega) hw
 rcases hs with ⟨p,hp,rfl,hn⟩ | ⟨p,hp,h1,h2,h3,rfl⟩
 ·by_cases hb:p.x.natAbs<B
  ·exact (hL (clq p) ⟨p.x,.inl rfl,hp.ne,hb⟩).mono
  ·rcases key p hp (by omega) with ⟨k1,k2⟩ | ⟨k1,k2⟩ | ⟨k1,k2,k3⟩
   ·exact (hL (clq p) ⟨_,.inr (.inl rfl),k1,k2⟩).mono
   ·exact (hL (clq p) ⟨_,.inr (.inr (.inl rfl)),k1,k2⟩).mono
   ·exact Kjb hL k1 k2 (.inr k3)
 ·by_cases hb:p.x.natAbs<B
  ·exact (hL ⟨p.x,(clq p).u,0,(clq p).u⟩ ⟨p.x,.inl rfl,hp.ne,hb⟩).mono
  ·rcases key p hp (by omega) with ⟨k1,_⟩ | ⟨k1,_⟩ | ⟨⟨_,_,_,k1⟩,_,_⟩
   ·exact absurd h1 k1
   ·exact absurd h2 k1
   ·rcases k1 with k1 | k1
    ·exact absurd h1 k1
    ·exact absurd h2 k1
theorem KlH {q:Qd} (hq:Low (2*B) q):Bnd (N+4) q:=by
 intro q' hs
 rcases hs with ⟨p,hp,rfl,hn⟩ | ⟨p,hp,h1,h2,h3,rfl⟩
 ·exact (KlI hL (KiR hp hn) (hp.low hq)).mono
 ·have hpx:=hp.low hq;have hx:=hp.ne;obtain ⟨C,hC⟩ : ∃C,C=(clq p).u:=⟨_,rfl⟩
  obtain ⟨x,hxe⟩ : ∃x,x=p.x:=⟨_,rfl⟩
  rw [<-hC] at h3 ⊢;rw [<-hxe] at h3 hpx hx ⊢;have hC0:C≠0:=λh=>h3 (by rw [h];exact (fmod_zero' hx).1)
  clear hC hxe h1 h2 hp hq;intro q'' hs
  have key : ∀r:Qd,KbC ⟨x,C,0,C⟩ r->r=⟨x,C,0,C⟩\/(r=⟨C,x,C,0⟩/\C.natAbs<x.natAbs):=by
   intro r hr
   rcases hr.how with h | ⟨h,h1⟩ | ⟨h,h1⟩ | ⟨h,h1,h2,h3⟩
   ·exact .inl h
   ·refine .inr ⟨h,?_⟩;subst h;simp only at h1;omega
   ·exfalso;have:=hr.ne;rw [h] at this;exact this rfl
   ·exfalso;subst h;simp only at h2;omega
  rcases hs with ⟨r,hr,rfl,hn⟩ | ⟨r,hr,k1,k2,k3,rfl⟩
  ·refine KlI hL (KiR hr hn) ?_
   rcases key r hr with rfl | ⟨rfl,h⟩
   ·exact hpx
   ·show C.natAbs<_;omega
  ·exfalso
   rcases key r hr with rfl | ⟨rfl,h⟩
   ·exact h3 k1
   ·refine k3 ?_
    have e1:(clq ⟨C,x,C,0⟩).u = -x:=by
     show (0:Int)-C.fdiv C*x-x.fdiv C*C.fmod C = -x;rw [(fmod_self' hC0).1,(fmod_self' hC0).2];omega
    have e2:x.fmod C=0:=k1;rw [e1];show (-x).fmod C=0;have e3:=YB x C;rw [e2] at e3;refine (JT (q := -x.fdiv C) (m:=0) ?_ (by unfold Rs;omega)).1;rw [Int.mul_neg];omega
end
theorem Kjc : ∀(k:Nat) (q:Qd),Low (2^k) q->Bnd (4*k) q
 | 0,q,⟨e,_,h0,h1⟩=>by simp at h1;omega
 | k+1,q,h=>by
  have e:2^(k+1)=2*2^k:=by rw [Nat.pow_succ];omega
  rw [e] at h;exact KlH (Kjc k) h
theorem KnI {k:Nat} {q:Qd} (hx:q.x.natAbs<2^k) (hy:q.y.natAbs<2^k) (hz:q.z.natAbs<2^k) (hu:q.u.natAbs<2^k):Bnd (4*k+1) q:=by
 by_cases h:q.x=0/\q.y=0/\q.z=0/\q.u=0
 ·have h1:Bnd 1 q:=by
   have hno : ∀p,¬KbC q p:=λp hp=>by
    have hn:=hp.ne
    rcases hp.how with h1 | ⟨h1,_⟩ | ⟨h1,_⟩ | ⟨h1,_⟩
    ·rw [h1] at hn;exact hn h.1
    ·rw [h1] at hn;exact hn h.2.1
    ·rw [h1] at hn;exact hn h.2.2.1
    ·rw [h1] at hn;exact hn h.2.2.2
   intro q' hs
   rcases hs with ⟨p,hp,_⟩ | ⟨p,hp,_⟩
   ·exact absurd hp (hno p)
   ·exact absurd hp (hno p)
  have:=h1.le (4*k);rwa [Nat.add_comm] at this
 ·refine (Kjc k q ?_).mono
  by_cases h1:q.x=0
  ·by_cases h2:q.y=0
   ·by_cases h3:q.z=0
    ·exact ⟨q.u,.inr (.inr (.inr rfl)),λh4=>h ⟨h1,h2,h3,h4⟩,hu⟩
    ·exact ⟨q.z,.inr (.inr (.inl rfl)),h3,hz⟩
   ·exact ⟨q.y,.inr (.inl rfl),h2,hy⟩
  ·exact ⟨q.x,.inl rfl,h1,hx⟩
def IB (X D:Nat) (q:Qd):Prop:=(q.x*q.u-q.y*q.z).natAbs<=D/\(q.x.natAbs<=D+X/\q.y.natAbs<=D+X/\q.z.natAbs<=D+X/\q.u.natAbs<=D+X)/\((q.x=0/\q.y=0/\q.z=0/\q.u=0)\/Low (X+1) q)
theorem KbC.det {q p:Qd} (h:KbC q p):(p.x*p.u-p.y*p.z).natAbs=(q.x*q.u-q.y*q.z).natAbs:=by
 rcases h.how with h1 | ⟨h1,_⟩ | ⟨h1,_⟩ | ⟨h1,_⟩
 ·rw [h1]
 ·rw [h1];simp only
  rw [show q.y*q.z-q.x*q.u = -(q.x*q.u-q.y*q.z) by omega,Int.natAbs_neg]
 ·rw [h1];simp only
  rw [show q.z*q.y-q.u*q.x = -(q.x*q.u-q.y*q.z) by rw [Int.mul_comm q.z,Int.mul_comm q.u];omega,Int.natAbs_neg]
 ·rw [h1];simp only
  rw [Int.mul_comm q.u,Int.mul_comm q.z]
theorem KoN {p:Qd} {D:Nat} (hne:p.x≠0) (hd:(p.x*p.u-p.y*p.z).natAbs<=D):(clq p).u.natAbs<=D+p.x.natAbs:=by
 have h:=KcP p;have h1:=ZE p.y hne;have h2:=ZE p.z hne;have a1:(clq p).y.natAbs<=p.x.natAbs:=by show (p.y.fmod p.x).natAbs<=_;unfold Rs at h1;omega
 have a2:(clq p).z.natAbs<=p.x.natAbs:=by show (p.z.fmod p.x).natAbs<=_;unfold Rs at h2;omega
 have h3:((clq p).y*(clq p).z).natAbs<=p.x.natAbs*p.x.natAbs:=by rw [Int.natAbs_mul];exact Nat.mul_le_mul a1 a2
 have h4:p.x.natAbs*(clq p).u.natAbs<=D+p.x.natAbs*p.x.natAbs:=by rw [<-Int.natAbs_mul,h];omega
 have hp:0<p.x.natAbs:=by omega
 have h5:D<=p.x.natAbs*D:=Nat.le_mul_of_pos_left _ hp;refine Nat.le_of_mul_le_mul_left (c:=p.x.natAbs) ?_ hp;rw [Nat.mul_add];omega
theorem IB.stp {X D:Nat} {q q':Qd} (h:IB X D q) (hs:Stp q q'):IB X D q':=by
 obtain ⟨hd,_,hl⟩:=h
 have key : ∀p,KbC q p->p.x.natAbs<=X/\(clq p).u.natAbs<=D+p.x.natAbs/\(p.x*p.u-p.y*p.z).natAbs<=D:=by
  intro p hp;have h1:(p.x*p.u-p.y*p.z).natAbs<=D:=by rw [hp.det];exact hd
  refine ⟨?_,KoN hp.ne h1,h1⟩
  rcases hl with hl | hl
  ·exfalso;have hn:=hp.ne
   rcases hp.how with h1 | ⟨h1,_⟩ | ⟨h1,_⟩ | ⟨h1,_⟩
   ·rw [h1] at hn;exact hn hl.1
   ·rw [h1] at hn;exact hn hl.2.1
   ·rw [h1] at hn;exact hn hl.2.2.1
   ·rw [h1] at hn;exact hn hl.2.2.2
  ·have:=hp.low hl;omega
 rcases hs with ⟨p,hp,rfl,hn⟩ | ⟨p,hp,h1,h2,h3,rfl⟩
 ·obtain ⟨k1,k2,k3⟩:=key p hp;have r1:=ZE p.y hp.ne;have r2:=ZE p.z hp.ne;have a1:(clq p).y.natAbs<=p.x.natAbs:=by show (p.y.fmod p.x).natAbs<=_;unfold Rs at r1;omega
  have a2:(clq p).z.natAbs<=p.x.natAbs:=by show (p.z.fmod p.x).natAbs<=_;unfold Rs at r2;omega
  have a0:(clq p).x=p.x:=rfl;refine ⟨?_,⟨by rw [a0];omega,by omega,by omega,by omega⟩,.inr ⟨p.x,.inl rfl,hp.ne,by omega⟩⟩;have:=KcP p;rw [a0];omega
 ·obtain ⟨k1,k2,k3⟩:=key p hp;have h:=KcP p;rw [h1,Int.zero_mul,Int.add_zero] at h;refine ⟨?_,⟨by simp only;omega,by simp only;omega,by simp only;omega,by simp only;omega⟩,.inr ⟨p.x,.inl rfl,hp.ne,by omega⟩⟩;simp only;rw [h];omega
structure ShD (n c:Nat) (s:Dg):Prop where
 la:s.a.length=n
 ra:Ks c s.a
 ll:s.l.length=n
 rl:Ks n s.l
 lr:s.r.length=c
 rr:Ks c s.r
theorem QN {A:Mx} {i:Nat} (h:A.length<=i) (k:Nat):eM A i k=0:=by
 unfold eM;rw [show A.getD i []=[] by rw [List.getD_eq_getElem?_getD,List.getElem?_eq_none h];rfl];simp
theorem Kas {A:Mx} {c i:Nat} (h:Ks c A) (hi:i<A.length):(A.getD i []).length=c:=by rw [Ka hi];exact h _ (List.getElem_mem hi)
theorem YP {A:Mx} {c k:Nat} (h:Ks c A) (hk:c<=k) (i:Nat):eM A i k=0:=by
 rcases Nat.lt_or_ge i A.length with hi | hi
 ·unfold eM;rw [List.getD_eq_getElem?_getD,List.getElem?_eq_none (by rw [Kas h hi];exact hk)];rfl
 ·exact QN hi k
theorem Kme (p:Int):(0:Int).fdiv p=0:=Int.zero_fdiv p
theorem Ql {n c t:Nat} {s:Dg} (h:ShD n c s) (ht:t<n) (htc:t<c) :
  ShD n c (Kt n c t s)
  /\ (∀i k,eM (Kt n c t s).a i k=(if t<i then eM s.a i k-qRw s t i*eM s.a t k else eM s.a i k)-(if t<k then qC s t k*(if t<i then eM s.a i t-qRw s t i*eM s.a t t else eM s.a i t) else 0))
  /\ (∀i k,eM (Kt n c t s).l i k=if t<i then eM s.l i k-qRw s t i*eM s.l t k else eM s.l i k)
  /\ (∀i k,eM (Kt n c t s).r i k=if t<k then eM s.r i k-qC s t k*eM s.r i t else eM s.r i k):=by
 obtain ⟨la,ra,ll,rl,lr,rr⟩:=h;obtain ⟨l1,l2,l3⟩:=ZT t s (n-(t+1));have hrow:=λi=>QR t s (by omega) (n-(t+1)) (by omega) i
 have hq0 : ∀i,n<=i->qRw s t i=0:=λi hi=>by unfold qRw;rw [QN (by omega),Kme]
 have hc0 : ∀k,c<=k->qC s t k=0:=λk hk=>by unfold qC;rw [YP ra hk,Kme]
 have hR1:Ks c (Kn t (n-(t+1)) s).a:=λr hr2=>by
  obtain ⟨i,hi,rfl⟩:=List.getElem_of_mem hr2;have h4:=(hrow i).1;rw [Ka hi] at h4;have hl2:(s.a.getD i []).length=c:=Kas ra (by omega);rw [h4];split
  ·rw [KR];exact hl2
  ·exact hl2
 have hR2:Ks n (Kn t (n-(t+1)) s).l:=λr hr2=>by
  obtain ⟨i,hi,rfl⟩:=List.getElem_of_mem hr2;have h4:=(hrow i).2;rw [Ka hi] at h4;have hl2:(s.l.getD i []).length=n:=Kas rl (by omega);rw [h4];split
  ·rw [KR];exact hl2
  ·exact hl2
 have hb : ∀i k,eM (Kn t (n-(t+1)) s).a i k=if t<i then eM s.a i k-qRw s t i*eM s.a t k else eM s.a i k:=by
  intro i k
  by_cases hi:i<n
  ·show ((Kn t (n-(t+1)) s).a.getD i []).getD k 0=_;rw [(hrow i).1]
   by_cases h3:t<i
   ·rw [if_pos ⟨h3,by omega⟩,if_pos h3,Z8 _ _ _ _ (by rw [Kas ra (by omega),Kas ra (by omega)];exact Nat.le_refl _)];rfl
   ·rw [if_neg (λh=>h3 h.1),if_neg h3];rfl
  ·rw [QN (by omega),hq0 i (by omega),QN (by omega)];simp
 have hbl : ∀i k,eM (Kn t (n-(t+1)) s).l i k=if t<i then eM s.l i k-qRw s t i*eM s.l t k else eM s.l i k:=by
  intro i k
  by_cases hi:i<n
  ·show ((Kn t (n-(t+1)) s).l.getD i []).getD k 0=_;rw [(hrow i).2]
   by_cases h3:t<i
   ·rw [if_pos ⟨h3,by omega⟩,if_pos h3,Z8 _ _ _ _ (by rw [Kas rl (by omega),Kas rl (by omega)];exact Nat.le_refl _)];rfl
   ·rw [if_neg (λh=>h3 h.1),if_neg h3];rfl
  ·rw [QN (by omega),hq0 i (by omega),QN (by omega)];simp
 obtain ⟨i1,i2,i3⟩:=Yf t c (Kn t (n-(t+1)) s) hR1 (by omega) (c-(t+1)) (by omega)
 have hqC : ∀k,qC (Kn t (n-(t+1)) s) t k=qC s t k:=λk=>by
  unfold qC;rw [hb,hb,if_neg (by omega),if_neg (by omega)]
 have e0:Kt n c t s=Qc t (c-(t+1)) (Kn t (n-(t+1)) s):=rfl;refine ⟨⟨?_,?_,?_,?_,?_,?_⟩,?_,?_,?_⟩
 ·rw [e0,i1,List.length_map];omega
 ·rw [e0,i1];intro r hr
  obtain ⟨l,hl,rfl⟩:=List.mem_map.1 hr;rw [Kcj];exact hR1 l hl
 ·rw [e0,i2];omega
 ·rw [e0,i2];exact hR2
 ·rw [e0,i3,List.length_map,l3];exact lr
 ·rw [e0,i3,l3];intro r hr
  obtain ⟨l,hl,rfl⟩:=List.mem_map.1 hr;rw [Kcj];exact rr l hl
 ·intro i k;rw [e0,i1,Jg _ (by simp [YN]),QM]
  by_cases hi:i<n
  ·rw [show ((Kn t (n-(t+1)) s).a.getD i []).length=c from Kas hR1 (by omega)]
   by_cases hk:k<c
   ·rw [if_pos hk]
    by_cases h3:t<k
    ·rw [if_pos ⟨h3,by omega⟩,if_pos h3,hqC];show eM (Kn t (n-(t+1)) s).a i k-_*eM (Kn t (n-(t+1)) s).a i t=_;rw [hb,hb]
    ·rw [if_neg (λh=>h3 h.1),if_neg h3];show eM (Kn t (n-(t+1)) s).a i k=_;rw [hb];simp
   ·rw [if_neg hk,YP ra (by omega),YP ra (by omega),hc0 k (by omega)];simp
  ·rw [show (Kn t (n-(t+1)) s).a.getD i []=[] by rw [List.getD_eq_getElem?_getD,List.getElem?_eq_none (by omega)];rfl,if_neg (by simp)];rw [QN (show s.a.length<=i by omega),QN (show s.a.length<=i by omega),hq0 i (by omega)];simp
 ·intro i k;rw [e0,i2];exact hbl i k
 ·intro i k;rw [e0,i3,l3,Jg _ (by simp [YN]),QM]
  by_cases hi:i<c
  ·rw [show (s.r.getD i []).length=c from Kas rr (by omega)]
   by_cases hk:k<c
   ·rw [if_pos hk]
    by_cases h3:t<k
    ·rw [if_pos ⟨h3,by omega⟩,if_pos h3,hqC];rfl
    ·rw [if_neg (λh=>h3 h.1),if_neg h3];rfl
   ·rw [if_neg hk,YP rr (by omega),hc0 k (by omega)];simp
  ·rw [show s.r.getD i []=[] by rw [List.getD_eq_getElem?_getD,List.getElem?_eq_none (by omega)];rfl,if_neg (by simp),QN (by omega),QN (by omega)];simp
def sx (a b x:Nat):Nat:=if x=b then a else if x=a then b else x
theorem KdZ {A:Mx} {t i:Nat} (ht:t<A.length) (hi:i<A.length) (x y:Nat):eM (Zl t i A) x y=eM A (sx t i x) y:=by
 unfold eM;rw [Kcz,Xd _ _ ht hi];unfold sx;split
 ·rfl
 ·split<;>rfl
theorem Kdh {A:Mx} {c t k:Nat} (hA:Ks c A) (ht:t<c) (hk:k<c) (x y:Nat):eM (ZA t k A) x y=eM A x (sx t k y):=by
 rw [Kck,Jg _ (by simp [swapL])]
 by_cases hx:x<A.length
 ·have hl:=Kas hA hx;unfold swapL;rw [QZ _ _ _ _ _ (by rw [List.length_set,hl];exact hk),QZ _ _ _ _ _ (by rw [hl];exact ht)];unfold sx eM;split
  ·rfl
  ·split<;>rfl
 ·rw [QN (by omega),show A.getD x []=[] by rw [List.getD_eq_getElem?_getD,List.getElem?_eq_none (by omega)];rfl];simp [swapL]
theorem Jp {A:Mx} {c t i:Nat} (h:Ks c A) (ht:t<A.length) (hi:i<A.length):Ks c (Zl t i A):=KmX h ht hi
theorem Kbj {A:Mx} {c t k:Nat} (h:Ks c A):Ks c (ZA t k A):=λr hr=>by
 obtain ⟨l,hl,rfl⟩:=List.mem_map.1 hr;rw [Kbt];exact h l hl
theorem JS (A:Mx) (t i:Nat):(Zl t i A).length=A.length:=by simp [Zl]
theorem JF (A:Mx) (t i:Nat):(ZA t i A).length=A.length:=by simp [ZA]
theorem QU {n c t i k:Nat} {s:Dg} (h:ShD n c s) (ht:t<n) (hi:i<n) (htc:t<c) (hk:k<c) :
  ShD n c (Kp t i k s)
  /\ (∀x y,eM (Kp t i k s).a x y=eM s.a (sx t i x) (sx t k y))
  /\ (∀x y,eM (Kp t i k s).l x y=eM s.l (sx t i x) y)
  /\ (∀x y,eM (Kp t i k s).r x y=eM s.r x (sx t k y)):=by
 obtain ⟨la,ra,ll,rl,lr,rr⟩:=h;refine ⟨⟨?_,?_,?_,?_,?_,?_⟩,?_,?_,?_⟩
 ·show (ZA t k (Zl t i s.a)).length=n;rw [JF,JS];exact la
 ·exact Kbj (Jp ra (by omega) (by omega))
 ·show (Zl t i s.l).length=n;rw [JS];exact ll
 ·exact Jp rl (by omega) (by omega)
 ·show (ZA t k s.r).length=c;rw [JF];exact lr
 ·exact Kbj rr
 ·intro x y;show eM (ZA t k (Zl t i s.a)) x y=_;rw [Kdh (Jp ra (by omega) (by omega)) htc hk,KdZ (by omega) (by omega)]
 ·intro x y;show eM (Zl t i s.l) x y=_;rw [KdZ (by omega) (by omega)]
 ·intro x y;show eM (ZA t k s.r) x y=_;rw [Kdh rr htc hk]
theorem Kfj {A:Mx} {c i t:Nat} {q:Int} (hA:Ks c A) (hi:i<A.length) (ht:t<A.length) (x y:Nat):eM (QG i t q A) x y=if x=i then eM A i y-q*eM A t y else eM A x y:=by
 unfold QG eM;rw [Kaf _ _ _ _ hi];split
 ·rw [Z8 _ _ _ _ (by rw [Kas hA hi,Kas hA ht];exact Nat.le_refl _)]
 ·rfl
theorem Kcw {A:Mx} {c i t:Nat} {q:Int} (hA:Ks c A) (hi:i<A.length):Ks c (QG i t q A) :=
 Y4 hA (by rw [KR];exact Kas hA hi)
theorem Kaw (A:Mx) (i t:Nat) (q:Int):(QG i t q A).length=A.length:=by simp [QG]
theorem XW {n c t i:Nat} {s:Dg} (h:ShD n c s) (ht:t<n) (hi:i<n) :
  ShD n c (JA t i s)
  /\ (∀x y,eM (JA t i s).a x y=if x=t then eM s.a t y+eM s.a i y else eM s.a x y)
  /\ (∀x y,eM (JA t i s).l x y=if x=t then eM s.l t y+eM s.l i y else eM s.l x y)
  /\ (JA t i s).r=s.r:=by
 obtain ⟨la,ra,ll,rl,lr,rr⟩:=h;refine ⟨⟨?_,?_,?_,?_,lr,rr⟩,?_,?_,rfl⟩
 ·show (QG t i (-1) s.a).length=n;rw [Kaw];exact la
 ·exact Kcw ra (by omega)
 ·show (QG t i (-1) s.l).length=n;rw [Kaw];exact ll
 ·exact Kcw rl (by omega)
 ·intro x y;show eM (QG t i (-1) s.a) x y=_;rw [Kfj ra (by omega) (by omega)];split
  ·omega
  ·rfl
 ·intro x y;show eM (QG t i (-1) s.l) x y=_;rw [Kfj rl (by omega) (by omega)];split
  ·omega
  ·rfl
theorem Kfh {A:Mx} {i:Nat} (hi:i<A.length) (x y:Nat):eM (ZS i A) x y=if x=i then -eM A i y else eM A x y:=by
 unfold ZS eM;rw [Kaf _ _ _ _ hi];split
 ·generalize A.getD i []=l;rw [List.getD_eq_getElem?_getD,List.getD_eq_getElem?_getD,List.getElem?_map]
  cases l[y]?<;>simp
 ·rfl
theorem YY {n c t:Nat} {s:Dg} (h:ShD n c s) (ht:t<n) :
  ShD n c (XC t s)
  /\ (∀x y,eM (XC t s).a x y=if x=t/\eM s.a t t<0 then -eM s.a t y else eM s.a x y)
  /\ (∀x y,eM (XC t s).l x y=if x=t/\eM s.a t t<0 then -eM s.l t y else eM s.l x y)
  /\ (XC t s).r=s.r:=by
 unfold XC
 by_cases hn:eM s.a t t<0
 ·obtain ⟨la,ra,ll,rl,lr,rr⟩:=h;rw [if_pos hn];refine ⟨⟨?_,?_,?_,?_,lr,rr⟩,?_,?_,rfl⟩
  ·show (ZS t s.a).length=n;unfold ZS;rw [List.length_set];exact la
  ·exact Y4 ra (by rw [List.length_map];exact Kas ra (by omega))
  ·show (ZS t s.l).length=n;unfold ZS;rw [List.length_set];exact ll
  ·exact Y4 rl (by rw [List.length_map];exact Kas rl (by omega))
  ·intro x y;show eM (ZS t s.a) x y=_;rw [Kfh (by omega)]
   by_cases hx:x=t
   ·rw [if_pos hx,if_pos ⟨hx,hn⟩]
   ·rw [if_neg hx,if_neg (λh=>hx h.1)]
  ·intro x y;show eM (ZS t s.l) x y=_;rw [Kfh (by omega)]
   by_cases hx:x=t
   ·rw [if_pos hx,if_pos ⟨hx,hn⟩]
   ·rw [if_neg hx,if_neg (λh=>hx h.1)]
 ·rw [if_neg hn];refine ⟨h,?_,?_,rfl⟩
  ·intro x y;rw [if_neg (λh=>hn h.2)]
  ·intro x y;rw [if_neg (λh=>hn h.2)]
def Bst (A:Mx) (D:Nat->Nat->Prop):Option (Nat×Nat)->Prop
 | none => ∀i k,D i k->eM A i k=0
 | some (i,k)=>D i k/\eM A i k≠0 /\ ∀i' k',D i' k'->eM A i' k'=0\/((eM A i k).natAbs<=(eM A i' k').natAbs/\((i'<i\/(i'=i/\k'<k))->(eM A i k).natAbs<(eM A i' k').natAbs))
theorem Kka {A:Mx} {D:Nat->Nat->Prop} {b:Option (Nat×Nat)} {i k:Nat} (h:Bst A D b) (hn : ∀i' k',D i' k'->i'<i\/(i'=i/\k'<k)):Bst A (λi' k'=>D i' k'\/(i'=i/\k'=k)) (KcG A b i k):=by
 unfold KcG
 by_cases hz:eM A i k=0
 ·rw [if_pos hz]
  cases b with
  | none =>
   intro i' k' hd
   rcases hd with hd | ⟨rfl,rfl⟩
   ·exact h i' k' hd
   ·exact hz
  | some p =>
   obtain ⟨x,y⟩:=p;obtain ⟨h1,h2,h3⟩:=h;refine ⟨.inl h1,h2,λi' k' hd => ?_⟩
   rcases hd with hd | ⟨rfl,rfl⟩
   ·exact h3 i' k' hd
   ·exact .inl hz
 ·rw [if_neg hz]
  cases b with
  | none =>
   refine ⟨.inr ⟨rfl,rfl⟩,hz,λi' k' hd => ?_⟩
   rcases hd with hd | ⟨rfl,rfl⟩
   ·exact .inl (h i' k' hd)
   ·exact .inr ⟨Nat.le_refl _,λh=>by omega⟩
  | some p =>
   obtain ⟨x,y⟩:=p;obtain ⟨h1,h2,h3⟩:=h;simp only
   by_cases hlt:(eM A i k).natAbs<(eM A x y).natAbs
   ·rw [if_pos hlt];refine ⟨.inr ⟨rfl,rfl⟩,hz,λi' k' hd => ?_⟩
    rcases hd with hd | ⟨rfl,rfl⟩
    ·rcases h3 i' k' hd with h4 | ⟨h4,_⟩
     ·exact .inl h4
     ·exact .inr ⟨by omega,λ_=>by omega⟩
    ·exact .inr ⟨Nat.le_refl _,λh=>by omega⟩
   ·rw [if_neg hlt];refine ⟨.inl h1,h2,λi' k' hd => ?_⟩
    rcases hd with hd | ⟨rfl,rfl⟩
    ·exact h3 i' k' hd
    ·refine .inr ⟨by omega,λh => ?_⟩;have:=hn x y h1;omega
theorem Bst.congr {A:Mx} {D E:Nat->Nat->Prop} {b:Option (Nat×Nat)} (h:Bst A D b) (he : ∀i k,D i k↔E i k):Bst A E b:=by
 have:D=E:=funext λi=>funext λk=>propext (he i k)
 rwa [this] at h
theorem KaX {A:Mx} {t i w:Nat} {b:Option (Nat×Nat)} (h:Bst A (λi' k'=>t<=i'/\i'<t+i/\t<=k'/\k'<t+w) b) : ∀k,k<=w ->
  Bst A (λi' k'=>t<=i'/\t<=k'/\((i'<t+i/\k'<t+w)\/(i'=t+i/\k'<t+k))) (Zz A (t+i) t b k)
 | 0,_=>h.congr λi' k'=>by omega
 | k+1,hk=>by
  rw [Zz];refine (Kka (KaX h k (by omega)) λi' k' hd=>by omega).congr λi' k' => ?_
  omega
theorem KaW {A:Mx} {t w:Nat} : ∀i,Bst A (λi' k'=>t<=i'/\i'<t+i/\t<=k'/\k'<t+w) (QI A t w i)
 | 0=>λi k h=>by omega
 | i+1=>by
  rw [QI];exact (KaX (KaW i) w (Nat.le_refl _)).congr λi' k'=>by omega
theorem Kd1 {t n c:Nat} {s:Dg} (h:ShD n c s) : ∀j,t+j<n->(Yn t j s=true ↔ ∀i,t<i->i<=t+j->(eM s.a i t).fmod (eM s.a t t)=0)
 | 0,_=>⟨λ_ i h1 h2=>by omega,λ_=>rfl⟩
 | j+1,hj=>by
  have ih:=Kd1 h (t:=t) j (by omega);have hr:=λi=>(QR t s (by rw [h.ll,h.la]) j (by rw [h.la];omega) i).1
  have e1:eM (Kn t j s).a (t+1+j) t=eM s.a (t+1+j) t:=by unfold eM;rw [hr,if_neg (by omega)]
  have e2:eM (Kn t j s).a t t=eM s.a t t:=by unfold eM;rw [hr,if_neg (by omega)]
  rw [Yn,Bool.and_eq_true,decide_eq_true_eq,e1,e2,ih];constructor
  ·rintro ⟨h1,h2⟩ i h3 h4
   by_cases e:i=t+1+j
   ·subst e;exact h2
   ·exact h1 i h3 (by omega)
  ·intro h1;exact ⟨λi h3 h4=>h1 i h3 (by omega),h1 _ (by omega) (by omega)⟩
theorem Kdk {t c:Nat} {s:Dg} (hR:Ks c s.a) (ht:t<s.a.length) : ∀j,t+j<c->(Ye t j s=true ↔ ∀k,t<k->k<=t+j->(eM s.a t k).fmod (eM s.a t t)=0)
 | 0,_=>⟨λ_ i h1 h2=>by omega,λ_=>rfl⟩
 | j+1,hj=>by
  have ih:=Kdk hR ht j (by omega);obtain ⟨e1,e2⟩:=KeV t c s hR ht j (by omega);rw [Ye,Bool.and_eq_true,decide_eq_true_eq,e1,e2,ih];constructor
  ·rintro ⟨h1,h2⟩ i h3 h4
   by_cases e:i=t+1+j
   ·subst e;exact h2
   ·exact h1 i h3 (by omega)
  ·intro h1;exact ⟨λi h3 h4=>h1 i h3 (by omega),h1 _ (by omega) (by omega)⟩
theorem Kgu {n c t:Nat} {s:Dg} (h:ShD n c s) (ht:t<n) (htc:t<c) :
  XK n c t s=true↔(∀i,t<i->i<n->(eM s.a i t).fmod (eM s.a t t)=0)/\(∀k,t<k->k<c->(eM s.a t k).fmod (eM s.a t t)=0):=by
 have hr:=λi=>(QR t s (by rw [h.ll,h.la]) (n-(t+1)) (by rw [h.la];omega) i).1
 have hR1:Ks c (Kn t (n-(t+1)) s).a:=λr hr2=>by
  obtain ⟨i,hi,rfl⟩:=List.getElem_of_mem hr2;have h4:=hr i;rw [Ka hi] at h4;have hl2:(s.a.getD i []).length=c:=Kas h.ra (by have:=(ZT t s (n-(t+1))).1;omega);rw [h4];split
  ·rw [KR];exact hl2
  ·exact hl2
 have et : ∀k,eM (Kn t (n-(t+1)) s).a t k=eM s.a t k:=λk=>by unfold eM;rw [hr,if_neg (by omega)]
 unfold XK;rw [Bool.and_eq_true,Kd1 h _ (by omega),Kdk hR1 (by rw [(ZT t s (n-(t+1))).1,h.la];exact ht) _ (by omega)];constructor
 ·rintro ⟨h1,h2⟩;refine ⟨λi a b=>h1 i a (by omega),λk a b => ?_⟩;have:=h2 k a (by omega);rwa [et,et] at this
 ·rintro ⟨h1,h2⟩;refine ⟨λi a b=>h1 i a (by omega),λk a b => ?_⟩;rw [et,et];exact h2 k a (by omega)
theorem KaF {A:Mx} {t i:Nat} : ∀w,(Xh A t i w=true ↔ ∃k,t<k/\k<=t+w/\(eM A i k).fmod (eM A t t)≠0)
 | 0=>⟨λh=>(by cases h),λ⟨k,h1,h2,_⟩=>by omega⟩
 | w+1=>by
  rw [Xh,Bool.or_eq_true,KaF w,decide_eq_true_eq];constructor
  ·rintro (⟨k,h1,h2,h3⟩ | h)
   ·exact ⟨k,h1,by omega,h3⟩
   ·exact ⟨t+1+w,by omega,by omega,h⟩
  ·rintro ⟨k,h1,h2,h3⟩
   by_cases e:k=t+1+w
   ·subst e;exact .inr h3
   ·exact .inl ⟨k,h1,by omega,h3⟩
theorem Kd9 {A:Mx} {t w x:Nat} : ∀{j},Q1 A t w j=some x->t<x/\x<=t+j /\ ∃k,t<k/\k<=t+w/\(eM A x k).fmod (eM A t t)≠0
 | 0,h=>by cases h
 | j+1,h=>by
  rw [Q1] at h
  cases hs:Q1 A t w j with
  | some y =>
   rw [hs] at h;injection h with h;subst h
   obtain ⟨h1,h2,h3⟩:=Kd9 hs;exact ⟨h1,by omega,h3⟩
  | none =>
   rw [hs] at h;simp only at h;split at h
   ·rename_i hb
    injection h with h;subst h
    exact ⟨by omega,by omega,(KaF w).1 hb⟩
   ·cases h
theorem Kd8 {A:Mx} {t w:Nat} : ∀{j},Q1 A t w j=none -> ∀i k,t<i->i<=t+j->t<k->k<=t+w->(eM A i k).fmod (eM A t t)=0
 | 0,_,i,k,h1,h2,_,_=>by omega
 | j+1,h,i,k,h1,h2,h3,h4=>by
  rw [Q1] at h
  cases hs:Q1 A t w j with
  | some y=>rw [hs] at h;cases h
  | none =>
   rw [hs] at h;simp only at h;split at h
   ·cases h
   ·rename_i hb
    by_cases e:i=t+1+j
    ·subst e;refine Classical.byContradiction λhc=>hb ((KaF w).2 ⟨k,h3,h4,hc⟩)
    ·exact Kd8 hs i k h1 (by omega) h3 h4
structure Key (n c t:Nat) (s:Dg) (i k:Nat):Prop where
 i0:t<=i
 i1:i<n
 k0:t<=k
 k1:k<c
 ne:eM s.a i k≠0
 le : ∀i' k',t<=i'->i'<n->t<=k'->k'<c->eM s.a i' k'=0\/((eM s.a i k).natAbs<=(eM s.a i' k').natAbs/\((i'<i\/(i'=i/\k'<k))->(eM s.a i k).natAbs<(eM s.a i' k').natAbs))
inductive Rnd (n c t:Nat) (s:Dg):Option (Nat×Dg)->Prop
 | stop (h : ∀i k,t<=i->i<n->t<=k->k<c->eM s.a i k=0):Rnd n c t s none
 | un (i k:Nat) (hp:Key n c t s i k) (h:(∃x,t<x/\x<n/\(eM (Kp t i k s).a x t).fmod (eM (Kp t i k s).a t t)≠0)\/(∃y,t<y/\y<c/\(eM (Kp t i k s).a t y).fmod (eM (Kp t i k s).a t t)≠0)) :
   Rnd n c t s (some (t,Kt n c t (Kp t i k s)))
 | sp (i k j y:Nat) (hp:Key n c t s i k) (h1 : ∀x,t<x->x<n->(eM (Kp t i k s).a x t).fmod (eM (Kp t i k s).a t t)=0) (h2 : ∀y,t<y->y<c->(eM (Kp t i k s).a t y).fmod (eM (Kp t i k s).a t t)=0)
   (hj:t<j) (hj1:j<n) (hy:t<y) (hy1:y<c) (hb:(eM (Kt n c t (Kp t i k s)).a j y).fmod (eM (Kt n c t (Kp t i k s)).a t t)≠0) :
   Rnd n c t s (some (t,JA t j (Kt n c t (Kp t i k s))))
 | fin (i k:Nat) (hp:Key n c t s i k) (h1 : ∀x,t<x->x<n->(eM (Kp t i k s).a x t).fmod (eM (Kp t i k s).a t t)=0) (h2 : ∀y,t<y->y<c->(eM (Kp t i k s).a t y).fmod (eM (Kp t i k s).a t t)=0)
   (h3 : ∀j y,t<j->j<n->t<y->y<c->(eM (Kt n c t (Kp t i k s)).a j y).fmod (eM (Kt n c t (Kp t i k s)).a t t)=0) :
   Rnd n c t s (some (t+1,XC t (Kt n c t (Kp t i k s))))
theorem X9 {n c t:Nat} {s:Dg} (h:ShD n c s):Rnd n c t s (Xc n c t s):=by
 have hb:=KaW (A:=s.a) (t:=t) (w:=c-t) (n-t);unfold Xc
 cases hB:QI s.a t (c-t) (n-t) with
 | none =>
  rw [hB] at hb;exact .stop λi k h1 h2 h3 h4=>hb i k ⟨h1,by omega,h3,by omega⟩
 | some p =>
  obtain ⟨i,k⟩:=p;rw [hB] at hb;obtain ⟨⟨d1,d2,d3,d4⟩,hne,hle⟩:=hb;have hp:Key n c t s i k:=⟨d1,by omega,d3,by omega,hne,λi' k' a1 a2 a3 a4=>hle i' k' ⟨a1,by omega,a3,by omega⟩⟩
  have hsw:=(QU h (show t<n by omega) hp.i1 (show t<c by omega) hp.k1).1;have hck:=Kgu hsw (show t<n by omega) (show t<c by omega);simp only
  by_cases hok:XK n c t (Kp t i k s)=true
  ·rw [if_pos hok];obtain ⟨h1,h2⟩:=hck.1 hok
   cases hs:Q1 (Kt n c t (Kp t i k s)).a t (c-(t+1)) (n-(t+1)) with
   | some j =>
    obtain ⟨j1,j2,y,y1,y2,y3⟩:=Kd9 hs;exact .sp i k j y hp h1 h2 j1 (by omega) y1 (by omega) y3
   | none =>
    exact .fin i k hp h1 h2 λj y a1 a2 a3 a4=>Kd8 hs j y a1 (by omega) a3 (by omega)
  ·rw [if_neg hok];refine .un i k hp (Classical.byContradiction λhc=>hok (hck.2 ⟨λx a b => ?_,λy a b => ?_⟩))
   ·exact Classical.byContradiction λh=>hc (.inl ⟨x,a,b,h⟩)
   ·exact Classical.byContradiction λh=>hc (.inr ⟨y,a,b,h⟩)
end
end Go.Proofs.YtmhfccigejcphaaGreatDoor
