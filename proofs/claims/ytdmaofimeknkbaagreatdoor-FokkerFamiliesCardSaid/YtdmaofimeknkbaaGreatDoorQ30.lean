/- Part 30 of the proof of the claim: contracts of the functions that it reaches, and plain laws; no condition. -/
import Derived.Test.YtdmaofimeknkbaaGreatDoorQ09
import Derived.Test.YtdmaofimeknkbaaGreatDoorQ29
set_option maxRecDepth 100000
set_option maxHeartbeats 20000000
namespace Go.Proofs.YtdmaofimeknkbaaGreatDoor
section
structure Qd where
 x:Int
 y:Int
 z:Int
 u:Int
def Rs (p m:Int):Prop:=(0<p/\0<=m/\m<p)\/(p<0/\p<m/\m<=0)
theorem ZF (a:Int) {p:Int} (hp:p≠0):Rs p (a.fmod p):=by
 rcases Int.lt_or_gt_of_ne hp with h | h
 ·obtain ⟨_,h2,h3⟩:=(Int.fdiv_fmod_unique' (a:=a) (b:=p) (r:=a.fmod p) (q:=a.fdiv p) h).1 ⟨rfl,rfl⟩;exact .inr ⟨h,h2,h3⟩
 ·obtain ⟨_,h2,h3⟩:=(Int.fdiv_fmod_unique (a:=a) (b:=p) (r:=a.fmod p) (q:=a.fdiv p) h).1 ⟨rfl,rfl⟩;exact .inl ⟨h,h2,h3⟩
theorem J8 {a p q m:Int} (h:m+p*q=a) (hr:Rs p m):a.fmod p=m/\a.fdiv p=q:=by
 rcases hr with ⟨h0,h1,h2⟩ | ⟨h0,h1,h2⟩
 ·have:=(Int.fdiv_fmod_unique (a:=a) h0).2 ⟨h,h1,h2⟩;exact ⟨this.2,this.1⟩
 ·have:=(Int.fdiv_fmod_unique' (a:=a) h0).2 ⟨h,h1,h2⟩;exact ⟨this.2,this.1⟩
theorem fmod_self' {p:Int} (hp:p≠0):p.fmod p=0/\p.fdiv p=1:=J8 (by omega) (by unfold Rs;omega)
theorem fmod_zero' {p:Int} (hp:p≠0):(0:Int).fmod p=0/\(0:Int).fdiv p=0:=J8 (by simp) (by unfold Rs;omega)
theorem Yz (a p:Int):a.fmod p=a-p*a.fdiv p:=by have:=Int.fmod_add_mul_fdiv a p;omega
structure KbQ (q p:Qd):Prop where
 ne:p.x≠0
 lx:q.x=0\/p.x.natAbs<=q.x.natAbs
 ly:q.y=0\/p.x.natAbs<=q.y.natAbs
 lz:q.z=0\/p.x.natAbs<=q.z.natAbs
 lu:q.u=0\/p.x.natAbs<=q.u.natAbs
 how:p=q\/(p=⟨q.y,q.x,q.u,q.z⟩/\(q.x=0\/p.x.natAbs<q.x.natAbs))\/(p=⟨q.z,q.u,q.x,q.y⟩/\(q.x=0\/p.x.natAbs<q.x.natAbs))
  \/ (p=⟨q.u,q.z,q.y,q.x⟩/\(q.x=0\/p.x.natAbs<q.x.natAbs)/\(q.y=0\/p.x.natAbs<q.y.natAbs)/\(q.z=0\/p.x.natAbs<q.z.natAbs))
def clq (p:Qd):Qd:=⟨p.x,p.y.fmod p.x,p.z.fmod p.x,p.u-p.z.fdiv p.x*p.y-p.y.fdiv p.x*p.z.fmod p.x⟩
inductive Stp (q q':Qd):Prop
 | un (p:Qd) (hp:KbQ q p) (h:q'=clq p) (hn:(clq p).y≠0\/(clq p).z≠0)
 | sp (p:Qd) (hp:KbQ q p) (h0:(clq p).y=0) (h1:(clq p).z=0) (h2:(clq p).u.fmod p.x≠0) (h:q'=⟨p.x,(clq p).u,0,(clq p).u⟩)
def Bnd:Nat->Qd->Prop
 | 0,_=>False
 | N+1,q => ∀q',Stp q q'->Bnd N q'
theorem Bnd.mono : ∀{N:Nat} {q:Qd},Bnd N q->Bnd (N+1) q
 | 0,_,h=>h.elim
 | N+1,_,h=>λq' hs=>Bnd.mono (N:=N) (h q' hs)
theorem Bnd.le {N:Nat} {q:Qd} (h:Bnd N q) : ∀d,Bnd (N+d) q
 | 0=>h
 | d+1=>(h.le d).mono
def Low (B:Nat) (q:Qd):Prop := ∃e:Int,(e=q.x\/e=q.y\/e=q.z\/e=q.u)/\e≠0/\e.natAbs<B
theorem KbQ.low {q p:Qd} {B:Nat} (h:KbQ q p) (hl:Low B q):p.x.natAbs<B:=by
 obtain ⟨e,he,h0,hb⟩:=hl
 rcases he with rfl | rfl | rfl | rfl
 ·rcases h.lx with h1 | h1
  ·exact absurd h1 h0
  ·omega
 ·rcases h.ly with h1 | h1
  ·exact absurd h1 h0
  ·omega
 ·rcases h.lz with h1 | h1
  ·exact absurd h1 h0
  ·omega
 ·rcases h.lu with h1 | h1
  ·exact absurd h1 h0
  ·omega
def Un (q:Qd):Prop:=q.x≠0/\Rs q.x q.y/\Rs q.x q.z/\(q.y≠0\/q.z≠0)
theorem Kjf {q p:Qd} (hp:KbQ q p) (hn:(clq p).y≠0\/(clq p).z≠0):Un (clq p):=⟨hp.ne,ZF _ hp.ne,ZF _ hp.ne,hn⟩
theorem Kdg {x y:Int} {B:Nat} (h:Rs x y) (hy:y≠0) (hx:x.natAbs<2*B) (hB:B<=y.natAbs):x.fmod y=x-y:=(J8 (q:=1) (by omega) (by unfold Rs at *;omega)).1
section
variable {B N:Nat} (hL : ∀q,Low B q->Bnd N q)
include hL
theorem KjA {q:Qd} (hU:Un q) (hx:q.x.natAbs<2*B) (hu:q.u=0\/q.x.natAbs<=q.u.natAbs):Bnd (N+1) q:=by
 obtain ⟨x,y,z,u⟩:=q;obtain ⟨h0,hy,hz,hne⟩:=hU;simp only at h0 hy hz hne hx hu;intro q' hs
 have key : ∀p:Qd,KbQ ⟨x,y,z,u⟩ p->B<=p.x.natAbs->((clq p).y≠0/\(clq p).y.natAbs<B)\/((clq p).z≠0/\(clq p).z.natAbs<B):=by
  intro p hp hb
  rcases hp.how with h | ⟨h,h1⟩ | ⟨h,h1⟩ | ⟨h,h1,_,_⟩
  ·subst h;exfalso;have a1:=hp.ly;have a2:=hp.lz;simp only at a1 a2 hb;unfold Rs at hy hz;omega
  ·subst h;have hb':B<=y.natAbs:=hb;have hn:y≠0:=hp.ne;have e:=Kdg hy hn hx hb'
   left
   show x.fmod y≠0/\(x.fmod y).natAbs<B;rw [e];unfold Rs at hy;omega
  ·subst h;have hb':B<=z.natAbs:=hb;have hn:z≠0:=hp.ne;have e:=Kdg hz hn hx hb'
   right
   show x.fmod z≠0/\(x.fmod z).natAbs<B;rw [e];unfold Rs at hz;omega
  ·subst h;exfalso;have hn:u≠0:=hp.ne;simp only at h1;omega
 rcases hs with ⟨p,hp,rfl,hn⟩ | ⟨p,hp,h1,h2,h3,rfl⟩
 ·by_cases hb:p.x.natAbs<B
  ·exact hL _ ⟨p.x,.inl rfl,hp.ne,hb⟩
  ·rcases key p hp (by omega) with ⟨k1,k2⟩ | ⟨k1,k2⟩
   ·exact hL _ ⟨_,.inr (.inl rfl),k1,k2⟩
   ·exact hL _ ⟨_,.inr (.inr (.inl rfl)),k1,k2⟩
 ·by_cases hb:p.x.natAbs<B
  ·exact hL _ ⟨p.x,.inl rfl,hp.ne,hb⟩
  ·rcases key p hp (by omega) with ⟨k1,_⟩ | ⟨k1,_⟩
   ·exact absurd h1 k1
   ·exact absurd h2 k1
omit hL in
theorem Kjy {x y z u m n w:Int} (hy0:0<=y) (hz0:0<=z) (hu:u<0) (hy : -u<y) (hz:(z=0/\n=0) \/ -u<z) (hm:u<m/\m<=0) (hn:u<n/\n<=0)
  (h:u*w=u*x-y*z+m*n):x<=w:=by
 refine Classical.byContradiction λhc => ?_
 have h1:0<u*(w-x):=Int.mul_pos_of_neg_of_neg hu (by omega);rw [Int.mul_sub] at h1
 have h2:m*n<=y*z:=by
  rcases hz with ⟨rfl,rfl⟩ | hz
  ·simp
  ·have h3:(-m)*(-n)<=y*z:=Int.mul_le_mul (by omega) (by omega) (by omega) hy0;rwa [Int.neg_mul_neg] at h3
 omega
omit hL in
theorem blk {x y z u m n w:Int} (hxy:Rs x y) (hxz:Rs x z) (hu:u≠0) (hop:(0<x/\u<0)\/(x<0/\0<u)) (hy:u.natAbs<y.natAbs) (hz:(z=0/\n=0)\/u.natAbs<z.natAbs) (hm:Rs u m) (hn:Rs u n)
  (h:u*w=u*x-y*z+m*n):x.natAbs<=w.natAbs:=by
 unfold Rs at *
 rcases hop with ⟨hx,hu⟩ | ⟨hx,hu⟩
 ·have:=Kjy (x:=x) (y:=y) (z:=z) (u:=u) (m:=m) (n:=n) (w:=w) (by omega) (by omega) hu (by omega) (by omega) (by omega) (by omega) h;omega
 ·have:=Kjy (x := -x) (y := -y) (z := -z) (u := -u) (m := -m) (n := -n) (w := -w) (by omega) (by omega) (by omega) (by omega) (by omega) (by omega) (by omega) (by rw [Int.neg_mul_neg,Int.neg_mul_neg,Int.neg_mul_neg,Int.neg_mul_neg];exact h);omega
omit hL in
theorem Kc4 (p:Qd):p.x*(clq p).u=(p.x*p.u-p.y*p.z)+(clq p).y*(clq p).z:=by
 show p.x*(p.u-p.z.fdiv p.x*p.y-p.y.fdiv p.x*p.z.fmod p.x)=_+p.y.fmod p.x*p.z.fmod p.x;rw [Yz,Yz];generalize p.z.fdiv p.x=a;generalize p.y.fdiv p.x=b
 grind
theorem Kl5 {q:Qd} (hU:Un q) (hx:q.x.natAbs<2*B):Bnd (N+2) q:=by
 obtain ⟨x,y,z,u⟩:=q;have hU0:=hU;obtain ⟨h0,hy,hz,hne⟩:=hU;simp only at h0 hy hz hne hx
 by_cases hu:u=0\/x.natAbs<=u.natAbs
 ·exact (KjA hL hU0 hx hu).mono
 intro q' hs
 have key : ∀p:Qd,KbQ ⟨x,y,z,u⟩ p->B<=p.x.natAbs->((clq p).y≠0/\(clq p).y.natAbs<B)\/((clq p).z≠0/\(clq p).z.natAbs<B)\/(Un (clq p)/\p.x.natAbs<2*B/\p.x.natAbs<=(clq p).u.natAbs):=by
  intro p hp hb
  rcases hp.how with h | ⟨h,h1⟩ | ⟨h,h1⟩ | ⟨h,h1,h2,h3⟩
  ·subst h;exfalso;have a1:=hp.ly;have a2:=hp.lz;simp only at a1 a2 hb;unfold Rs at hy hz;omega
  ·subst h;have hb':B<=y.natAbs:=hb;have hn:y≠0:=hp.ne;have e:=Kdg hy hn hx hb'
   left
   show x.fmod y≠0/\(x.fmod y).natAbs<B;rw [e];unfold Rs at hy;omega
  ·subst h;have hb':B<=z.natAbs:=hb;have hn:z≠0:=hp.ne;have e:=Kdg hz hn hx hb'
   right;left
   show x.fmod z≠0/\(x.fmod z).natAbs<B;rw [e];unfold Rs at hz;omega
  ·subst h;have hn:u≠0:=hp.ne;have hb':B<=u.natAbs:=hb;simp only at h1 h2 h3;have hdet:=Kc4 ⟨u,z,y,x⟩;have hm:=ZF y hn;have hm2:=ZF z hn
   by_cases hsg:(0<x/\0<u)\/(x<0/\u<0)
   ·rcases hne with hne | hne
    ·have e:y.fmod u=y-u:=(J8 (q:=1) (by omega) (by unfold Rs at *;omega)).1
     right;left
     show y.fmod u≠0/\(y.fmod u).natAbs<B;rw [e];unfold Rs at hy;omega
    ·have e:z.fmod u=z-u:=(J8 (q:=1) (by omega) (by unfold Rs at *;omega)).1
     left
     show z.fmod u≠0/\(z.fmod u).natAbs<B;rw [e];unfold Rs at hz;omega
   ·have hop:(0<x/\u<0)\/(x<0/\0<u):=by omega
    right;right
    have hyz:y≠0->y.fmod u≠0:=λh=>by
     have e:y.fmod u=y+2*u:=(J8 (q := -2) (by omega) (by unfold Rs at *;omega)).1;rw [e];unfold Rs at hy;omega
    have hzz:z≠0->z.fmod u≠0:=λh=>by
     have e:z.fmod u=z+2*u:=(J8 (q := -2) (by omega) (by unfold Rs at *;omega)).1;rw [e];unfold Rs at hz;omega
    refine ⟨Kjf hp ?_,by show u.natAbs<_;omega,?_⟩
    ·rcases hne with hne | hne
     ·exact .inr (hyz hne)
     ·exact .inl (hzz hne)
    ·have hw:x.natAbs<=(clq ⟨u,z,y,x⟩).u.natAbs:=by
      by_cases hy0:y=0
      ·have hz0:z≠0:=by omega
       refine blk (y:=z) (z:=y) (m:=z.fmod u) (n:=y.fmod u) hz hy hn hop (by omega) ?_ hm2 hm ?_
       ·left;exact ⟨hy0,by rw [hy0];exact (fmod_zero' hn).1⟩
       ·exact hdet
      ·refine blk (y:=y) (z:=z) (m:=y.fmod u) (n:=z.fmod u) hy hz hn hop (by omega) ?_ hm hm2 ?_
       ·by_cases hz0:z=0
        ·left;exact ⟨hz0,by rw [hz0];exact (fmod_zero' hn).1⟩
        ·right;omega
       ·rw [Int.mul_comm y z,Int.mul_comm (y.fmod u)];exact hdet
     exact Nat.le_trans (show u.natAbs<=x.natAbs by omega) hw
 rcases hs with ⟨p,hp,rfl,hn⟩ | ⟨p,hp,h1,h2,h3,rfl⟩
 ·by_cases hb:p.x.natAbs<B
  ·exact (hL (clq p) ⟨p.x,.inl rfl,hp.ne,hb⟩).mono
  ·rcases key p hp (by omega) with ⟨k1,k2⟩ | ⟨k1,k2⟩ | ⟨k1,k2,k3⟩
   ·exact (hL (clq p) ⟨_,.inr (.inl rfl),k1,k2⟩).mono
   ·exact (hL (clq p) ⟨_,.inr (.inr (.inl rfl)),k1,k2⟩).mono
   ·exact KjA hL k1 k2 (.inr k3)
 ·by_cases hb:p.x.natAbs<B
  ·exact (hL ⟨p.x,(clq p).u,0,(clq p).u⟩ ⟨p.x,.inl rfl,hp.ne,hb⟩).mono
  ·rcases key p hp (by omega) with ⟨k1,_⟩ | ⟨k1,_⟩ | ⟨⟨_,_,_,k1⟩,_,_⟩
   ·exact absurd h1 k1
   ·exact absurd h2 k1
   ·rcases k1 with k1 | k1
    ·exact absurd h1 k1
    ·exact absurd h2 k1
theorem Kl4 {q:Qd} (hq:Low (2*B) q):Bnd (N+4) q:=by
 intro q' hs
 rcases hs with ⟨p,hp,rfl,hn⟩ | ⟨p,hp,h1,h2,h3,rfl⟩
 ·exact (Kl5 hL (Kjf hp hn) (hp.low hq)).mono
 ·have hpx:=hp.low hq;have hx:=hp.ne;obtain ⟨C,hC⟩ : ∃C,C=(clq p).u:=⟨_,rfl⟩
  obtain ⟨x,hxe⟩ : ∃x,x=p.x:=⟨_,rfl⟩
  rw [<-hC] at h3 ⊢;rw [<-hxe] at h3 hpx hx ⊢;have hC0:C≠0:=λh=>h3 (by rw [h];exact (fmod_zero' hx).1)
  clear hC hxe h1 h2 hp hq;intro q'' hs
  have key : ∀r:Qd,KbQ ⟨x,C,0,C⟩ r->r=⟨x,C,0,C⟩\/(r=⟨C,x,C,0⟩/\C.natAbs<x.natAbs):=by
   intro r hr
   rcases hr.how with h | ⟨h,h1⟩ | ⟨h,h1⟩ | ⟨h,h1,h2,h3⟩
   ·exact .inl h
   ·refine .inr ⟨h,?_⟩;subst h;simp only at h1;omega
   ·exfalso;have:=hr.ne;rw [h] at this;exact this rfl
   ·exfalso;subst h;simp only at h2;omega
  rcases hs with ⟨r,hr,rfl,hn⟩ | ⟨r,hr,k1,k2,k3,rfl⟩
  ·refine Kl5 hL (Kjf hr hn) ?_
   rcases key r hr with rfl | ⟨rfl,h⟩
   ·exact hpx
   ·show C.natAbs<_;omega
  ·exfalso
   rcases key r hr with rfl | ⟨rfl,h⟩
   ·exact h3 k1
   ·refine k3 ?_
    have e1:(clq ⟨C,x,C,0⟩).u = -x:=by
     show (0:Int)-C.fdiv C*x-x.fdiv C*C.fmod C = -x;rw [(fmod_self' hC0).1,(fmod_self' hC0).2];omega
    have e2:x.fmod C=0:=k1;rw [e1];show (-x).fmod C=0;have e3:=Yz x C;rw [e2] at e3;refine (J8 (q := -x.fdiv C) (m:=0) ?_ (by unfold Rs;omega)).1;rw [Int.mul_neg];omega
end
theorem KjB : ∀(k:Nat) (q:Qd),Low (2^k) q->Bnd (4*k) q
 | 0,q,⟨e,_,h0,h1⟩=>by simp at h1;omega
 | k+1,q,h=>by
  have e:2^(k+1)=2*2^k:=by rw [Nat.pow_succ];omega
  rw [e] at h;exact Kl4 (KjB k) h
theorem Kn7 {k:Nat} {q:Qd} (hx:q.x.natAbs<2^k) (hy:q.y.natAbs<2^k) (hz:q.z.natAbs<2^k) (hu:q.u.natAbs<2^k):Bnd (4*k+1) q:=by
 by_cases h:q.x=0/\q.y=0/\q.z=0/\q.u=0
 ·have h1:Bnd 1 q:=by
   have hno : ∀p,¬KbQ q p:=λp hp=>by
    have hn:=hp.ne
    rcases hp.how with h1 | ⟨h1,_⟩ | ⟨h1,_⟩ | ⟨h1,_⟩
    ·rw [h1] at hn;exact hn h.1
    ·rw [h1] at hn;exact hn h.2.1
    ·rw [h1] at hn;exact hn h.2.2.1
    ·rw [h1] at hn;exact hn h.2.2.2
   intro q' hs
   rcases hs with ⟨p,hp,_⟩ | ⟨p,hp,_⟩
   ·exact absurd hp (hno p)
   ·exact absurd hp (hno p)
  have:=h1.le (4*k);rwa [Nat.add_comm] at this
 ·refine (KjB k q ?_).mono
  by_cases h1:q.x=0
  ·by_cases h2:q.y=0
   ·by_cases h3:q.z=0
    ·exact ⟨q.u,.inr (.inr (.inr rfl)),λh4=>h ⟨h1,h2,h3,h4⟩,hu⟩
    ·exact ⟨q.z,.inr (.inr (.inl rfl)),h3,hz⟩
   ·exact ⟨q.y,.inr (.inl rfl),h2,hy⟩
  ·exact ⟨q.x,.inl rfl,h1,hx⟩
def IB (X D:Nat) (q:Qd):Prop:=(q.x*q.u-q.y*q.z).natAbs<=D/\(q.x.natAbs<=D+X/\q.y.natAbs<=D+X/\q.z.natAbs<=D+X/\q.u.natAbs<=D+X)/\((q.x=0/\q.y=0/\q.z=0/\q.u=0)\/Low (X+1) q)
theorem KbQ.det {q p:Qd} (h:KbQ q p):(p.x*p.u-p.y*p.z).natAbs=(q.x*q.u-q.y*q.z).natAbs:=by
 rcases h.how with h1 | ⟨h1,_⟩ | ⟨h1,_⟩ | ⟨h1,_⟩
 ·rw [h1]
 ·rw [h1];simp only
  rw [show q.y*q.z-q.x*q.u = -(q.x*q.u-q.y*q.z) by omega,Int.natAbs_neg]
 ·rw [h1];simp only
  rw [show q.z*q.y-q.u*q.x = -(q.x*q.u-q.y*q.z) by rw [Int.mul_comm q.z,Int.mul_comm q.u];omega,Int.natAbs_neg]
 ·rw [h1];simp only
  rw [Int.mul_comm q.u,Int.mul_comm q.z]
theorem Kph {p:Qd} {D:Nat} (hne:p.x≠0) (hd:(p.x*p.u-p.y*p.z).natAbs<=D):(clq p).u.natAbs<=D+p.x.natAbs:=by
 have h:=Kc4 p;have h1:=ZF p.y hne;have h2:=ZF p.z hne;have a1:(clq p).y.natAbs<=p.x.natAbs:=by show (p.y.fmod p.x).natAbs<=_;unfold Rs at h1;omega
 have a2:(clq p).z.natAbs<=p.x.natAbs:=by show (p.z.fmod p.x).natAbs<=_;unfold Rs at h2;omega
 have h3:((clq p).y*(clq p).z).natAbs<=p.x.natAbs*p.x.natAbs:=by rw [Int.natAbs_mul];exact Nat.mul_le_mul a1 a2
 have h4:p.x.natAbs*(clq p).u.natAbs<=D+p.x.natAbs*p.x.natAbs:=by rw [<-Int.natAbs_mul,h];omega
 have hp:0<p.x.natAbs:=by omega
 have h5:D<=p.x.natAbs*D:=Nat.le_mul_of_pos_left _ hp;refine Nat.le_of_mul_le_mul_left (c:=p.x.natAbs) ?_ hp;rw [Nat.mul_add];omega
theorem IB.stp {X D:Nat} {q q':Qd} (h:IB X D q) (hs:Stp q q'):IB X D q':=by
 obtain ⟨hd,_,hl⟩:=h
 have key : ∀p,KbQ q p->p.x.natAbs<=X/\(clq p).u.natAbs<=D+p.x.natAbs/\(p.x*p.u-p.y*p.z).natAbs<=D:=by
  intro p hp;have h1:(p.x*p.u-p.y*p.z).natAbs<=D:=by rw [hp.det];exact hd
  refine ⟨?_,Kph hp.ne h1,h1⟩
  rcases hl with hl | hl
  ·exfalso;have hn:=hp.ne
   rcases hp.how with h1 | ⟨h1,_⟩ | ⟨h1,_⟩ | ⟨h1,_⟩
   ·rw [h1] at hn;exact hn hl.1
   ·rw [h1] at hn;exact hn hl.2.1
   ·rw [h1] at hn;exact hn hl.2.2.1
   ·rw [h1] at hn;exact hn hl.2.2.2
  ·have:=hp.low hl;omega
 rcases hs with ⟨p,hp,rfl,hn⟩ | ⟨p,hp,h1,h2,h3,rfl⟩
 ·obtain ⟨k1,k2,k3⟩:=key p hp;have r1:=ZF p.y hp.ne;have r2:=ZF p.z hp.ne;have a1:(clq p).y.natAbs<=p.x.natAbs:=by show (p.y.fmod p.x).natAbs<=_;unfold Rs at r1;omega
  have a2:(clq p).z.natAbs<=p.x.natAbs:=by show (p.z.fmod p.x).natAbs<=_;unfold Rs at r2;omega
  have a0:(clq p).x=p.x:=rfl;refine ⟨?_,⟨by rw [a0];omega,by omega,by omega,by omega⟩,.inr ⟨p.x,.inl rfl,hp.ne,by omega⟩⟩;have:=Kc4 p;rw [a0];omega
 ·obtain ⟨k1,k2,k3⟩:=key p hp;have h:=Kc4 p;rw [h1,Int.zero_mul,Int.add_zero] at h;refine ⟨?_,⟨by simp only;omega,by simp only;omega,by simp only;omega,by simp only;omega⟩,.inr ⟨p.x,.inl rfl,hp.ne,by omega⟩⟩;simp only;rw [h];omega
structure ShD (n c:Nat) (s:Dg):Prop where
 la:s.a.length=n
 ra:Ku c s.a
 ll:s.l.length=n
 rl:Ku n s.l
 lr:s.r.length=c
 rr:Ku c s.r
theorem QU {A:Mx} {i:Nat} (h:A.length<=i) (k:Nat):eM A i k=0:=by
 unfold eM;rw [show A.getD i []=[] by rw [List.getD_eq_getElem?_getD,List.getElem?_eq_none h];rfl];simp
theorem KaH {A:Mx} {c i:Nat} (h:Ku c A) (hi:i<A.length):(A.getD i []).length=c:=by rw [Ka hi];exact h _ (List.getElem_mem hi)
theorem YM {A:Mx} {c k:Nat} (h:Ku c A) (hk:c<=k) (i:Nat):eM A i k=0:=by
 rcases Nat.lt_or_ge i A.length with hi | hi
 ·unfold eM;rw [List.getD_eq_getElem?_getD,List.getElem?_eq_none (by rw [KaH h hi];exact hk)];rfl
 ·exact QU hi k
theorem KmD (p:Int):(0:Int).fdiv p=0:=Int.zero_fdiv p
theorem Ql {n c t:Nat} {s:Dg} (h:ShD n c s) (ht:t<n) (htc:t<c) :
  ShD n c (Kw n c t s)
  /\ (∀i k,eM (Kw n c t s).a i k=(if t<i then eM s.a i k-qRw s t i*eM s.a t k else eM s.a i k)-(if t<k then qC s t k*(if t<i then eM s.a i t-qRw s t i*eM s.a t t else eM s.a i t) else 0))
  /\ (∀i k,eM (Kw n c t s).l i k=if t<i then eM s.l i k-qRw s t i*eM s.l t k else eM s.l i k)
  /\ (∀i k,eM (Kw n c t s).r i k=if t<k then eM s.r i k-qC s t k*eM s.r i t else eM s.r i k):=by
 obtain ⟨la,ra,ll,rl,lr,rr⟩:=h;obtain ⟨l1,l2,l3⟩:=ZU t s (n-(t+1));have hrow:=λi=>QZ t s (by omega) (n-(t+1)) (by omega) i
 have hq0 : ∀i,n<=i->qRw s t i=0:=λi hi=>by unfold qRw;rw [QU (by omega),KmD]
 have hc0 : ∀k,c<=k->qC s t k=0:=λk hk=>by unfold qC;rw [YM ra hk,KmD]
 have hR1:Ku c (Kn t (n-(t+1)) s).a:=λr hr2=>by
  obtain ⟨i,hi,rfl⟩:=List.getElem_of_mem hr2;have h4:=(hrow i).1;rw [Ka hi] at h4;have hl2:(s.a.getD i []).length=c:=KaH ra (by omega);rw [h4];split
  ·rw [KV];exact hl2
  ·exact hl2
 have hR2:Ku n (Kn t (n-(t+1)) s).l:=λr hr2=>by
  obtain ⟨i,hi,rfl⟩:=List.getElem_of_mem hr2;have h4:=(hrow i).2;rw [Ka hi] at h4;have hl2:(s.l.getD i []).length=n:=KaH rl (by omega);rw [h4];split
  ·rw [KV];exact hl2
  ·exact hl2
 have hb : ∀i k,eM (Kn t (n-(t+1)) s).a i k=if t<i then eM s.a i k-qRw s t i*eM s.a t k else eM s.a i k:=by
  intro i k
  by_cases hi:i<n
  ·show ((Kn t (n-(t+1)) s).a.getD i []).getD k 0=_;rw [(hrow i).1]
   by_cases h3:t<i
   ·rw [if_pos ⟨h3,by omega⟩,if_pos h3,Z7 _ _ _ _ (by rw [KaH ra (by omega),KaH ra (by omega)];exact Nat.le_refl _)];rfl
   ·rw [if_neg (λh=>h3 h.1),if_neg h3];rfl
  ·rw [QU (by omega),hq0 i (by omega),QU (by omega)];simp
 have hbl : ∀i k,eM (Kn t (n-(t+1)) s).l i k=if t<i then eM s.l i k-qRw s t i*eM s.l t k else eM s.l i k:=by
  intro i k
  by_cases hi:i<n
  ·show ((Kn t (n-(t+1)) s).l.getD i []).getD k 0=_;rw [(hrow i).2]
   by_cases h3:t<i
   ·rw [if_pos ⟨h3,by omega⟩,if_pos h3,Z7 _ _ _ _ (by rw [KaH rl (by omega),KaH rl (by omega)];exact Nat.le_refl _)];rfl
   ·rw [if_neg (λh=>h3 h.1),if_neg h3];rfl
  ·rw [QU (by omega),hq0 i (by omega),QU (by omega)];simp
 obtain ⟨i1,i2,i3⟩:=Yh t c (Kn t (n-(t+1)) s) hR1 (by omega) (c-(t+1)) (by omega)
 have hqC : ∀k,qC (Kn t (n-(t+1)) s) t k=qC s t k:=λk=>by
  unfold qC;rw [hb,hb,if_neg (by omega),if_neg (by omega)]
 have e0:Kw n c t s=Qc t (c-(t+1)) (Kn t (n-(t+1)) s):=rfl;refine ⟨⟨?_,?_,?_,?_,?_,?_⟩,?_,?_,?_⟩
 ·rw [e0,i1,List.length_map];omega
 ·rw [e0,i1];intro r hr
  obtain ⟨l,hl,rfl⟩:=List.mem_map.1 hr;rw [Kcx];exact hR1 l hl
 ·rw [e0,i2];omega
 ·rw [e0,i2];exact hR2
 ·rw [e0,i3,List.length_map,l3];exact lr
 ·rw [e0,i3,l3];intro r hr
  obtain ⟨l,hl,rfl⟩:=List.mem_map.1 hr;rw [Kcx];exact rr l hl
 ·intro i k;rw [e0,i1,Ji _ (by simp [YK]),QS]
  by_cases hi:i<n
  ·rw [show ((Kn t (n-(t+1)) s).a.getD i []).length=c from KaH hR1 (by omega)]
   by_cases hk:k<c
   ·rw [if_pos hk]
    by_cases h3:t<k
    ·rw [if_pos ⟨h3,by omega⟩,if_pos h3,hqC];show eM (Kn t (n-(t+1)) s).a i k-_*eM (Kn t (n-(t+1)) s).a i t=_;rw [hb,hb]
    ·rw [if_neg (λh=>h3 h.1),if_neg h3];show eM (Kn t (n-(t+1)) s).a i k=_;rw [hb];simp
   ·rw [if_neg hk,YM ra (by omega),YM ra (by omega),hc0 k (by omega)];simp
  ·rw [show (Kn t (n-(t+1)) s).a.getD i []=[] by rw [List.getD_eq_getElem?_getD,List.getElem?_eq_none (by omega)];rfl,if_neg (by simp)];rw [QU (show s.a.length<=i by omega),QU (show s.a.length<=i by omega),hq0 i (by omega)];simp
 ·intro i k;rw [e0,i2];exact hbl i k
 ·intro i k;rw [e0,i3,l3,Ji _ (by simp [YK]),QS]
  by_cases hi:i<c
  ·rw [show (s.r.getD i []).length=c from KaH rr (by omega)]
   by_cases hk:k<c
   ·rw [if_pos hk]
    by_cases h3:t<k
    ·rw [if_pos ⟨h3,by omega⟩,if_pos h3,hqC];rfl
    ·rw [if_neg (λh=>h3 h.1),if_neg h3];rfl
   ·rw [if_neg hk,YM rr (by omega),hc0 k (by omega)];simp
  ·rw [show s.r.getD i []=[] by rw [List.getD_eq_getElem?_getD,List.getElem?_eq_none (by omega)];rfl,if_neg (by simp),QU (by omega),QU (by omega)];simp
def sx (a b x:Nat):Nat:=if x=b then a else if x=a then b else x
theorem Keg {A:Mx} {t i:Nat} (ht:t<A.length) (hi:i<A.length) (x y:Nat):eM (Zq t i A) x y=eM A (sx t i x) y:=by
 unfold eM;rw [KcL,Xe _ _ ht hi];unfold sx;split
 ·rfl
 ·split<;>rfl
theorem Kdw {A:Mx} {c t k:Nat} (hA:Ku c A) (ht:t<c) (hk:k<c) (x y:Nat):eM (ZC t k A) x y=eM A x (sx t k y):=by
 rw [Kcy,Ji _ (by simp [swapL])]
 by_cases hx:x<A.length
 ·have hl:=KaH hA hx;unfold swapL;rw [Q4 _ _ _ _ _ (by rw [List.length_set,hl];exact hk),Q4 _ _ _ _ _ (by rw [hl];exact ht)];unfold sx eM;split
  ·rfl
  ·split<;>rfl
 ·rw [QU (by omega),show A.getD x []=[] by rw [List.getD_eq_getElem?_getD,List.getElem?_eq_none (by omega)];rfl];simp [swapL]
theorem Js {A:Mx} {c t i:Nat} (h:Ku c A) (ht:t<A.length) (hi:i<A.length):Ku c (Zq t i A):=Knn h ht hi
theorem Kbv {A:Mx} {c t k:Nat} (h:Ku c A):Ku c (ZC t k A):=λr hr=>by
 obtain ⟨l,hl,rfl⟩:=List.mem_map.1 hr;rw [KbF];exact h l hl
theorem J6 (A:Mx) (t i:Nat):(Zq t i A).length=A.length:=by simp [Zq]
theorem JN (A:Mx) (t i:Nat):(ZC t i A).length=A.length:=by simp [ZC]
theorem Q0 {n c t i k:Nat} {s:Dg} (h:ShD n c s) (ht:t<n) (hi:i<n) (htc:t<c) (hk:k<c) :
  ShD n c (Kp t i k s)
  /\ (∀x y,eM (Kp t i k s).a x y=eM s.a (sx t i x) (sx t k y))
  /\ (∀x y,eM (Kp t i k s).l x y=eM s.l (sx t i x) y)
  /\ (∀x y,eM (Kp t i k s).r x y=eM s.r x (sx t k y)):=by
 obtain ⟨la,ra,ll,rl,lr,rr⟩:=h;refine ⟨⟨?_,?_,?_,?_,?_,?_⟩,?_,?_,?_⟩
 ·show (ZC t k (Zq t i s.a)).length=n;rw [JN,J6];exact la
 ·exact Kbv (Js ra (by omega) (by omega))
 ·show (Zq t i s.l).length=n;rw [J6];exact ll
 ·exact Js rl (by omega) (by omega)
 ·show (ZC t k s.r).length=c;rw [JN];exact lr
 ·exact Kbv rr
 ·intro x y;show eM (ZC t k (Zq t i s.a)) x y=_;rw [Kdw (Js ra (by omega) (by omega)) htc hk,Keg (by omega) (by omega)]
 ·intro x y;show eM (Zq t i s.l) x y=_;rw [Keg (by omega) (by omega)]
 ·intro x y;show eM (ZC t k s.r) x y=_;rw [Kdw rr htc hk]
theorem KfA {A:Mx} {c i t:Nat} {q:Int} (hA:Ku c A) (hi:i<A.length) (ht:t<A.length) (x y:Nat):eM (QJ i t q A) x y=if x=i then eM A i y-q*eM A t y else eM A x y:=by
 unfold QJ eM;rw [Kat _ _ _ _ hi];split
 ·rw [Z7 _ _ _ _ (by rw [KaH hA hi,KaH hA ht];exact Nat.le_refl _)]
 ·rfl
theorem KcI {A:Mx} {c i t:Nat} {q:Int} (hA:Ku c A) (hi:i<A.length):Ku c (QJ i t q A) :=
 Y4 hA (by rw [KV];exact KaH hA hi)
theorem KaM (A:Mx) (i t:Nat) (q:Int):(QJ i t q A).length=A.length:=by simp [QJ]
theorem XZ {n c t i:Nat} {s:Dg} (h:ShD n c s) (ht:t<n) (hi:i<n) :
  ShD n c (JE t i s)
  /\ (∀x y,eM (JE t i s).a x y=if x=t then eM s.a t y+eM s.a i y else eM s.a x y)
  /\ (∀x y,eM (JE t i s).l x y=if x=t then eM s.l t y+eM s.l i y else eM s.l x y)
  /\ (JE t i s).r=s.r:=by
 obtain ⟨la,ra,ll,rl,lr,rr⟩:=h;refine ⟨⟨?_,?_,?_,?_,lr,rr⟩,?_,?_,rfl⟩
 ·show (QJ t i (-1) s.a).length=n;rw [KaM];exact la
 ·exact KcI ra (by omega)
 ·show (QJ t i (-1) s.l).length=n;rw [KaM];exact ll
 ·exact KcI rl (by omega)
 ·intro x y;show eM (QJ t i (-1) s.a) x y=_;rw [KfA ra (by omega) (by omega)];split
  ·omega
  ·rfl
 ·intro x y;show eM (QJ t i (-1) s.l) x y=_;rw [KfA rl (by omega) (by omega)];split
  ·omega
  ·rfl
theorem Kfy {A:Mx} {i:Nat} (hi:i<A.length) (x y:Nat):eM (ZT i A) x y=if x=i then -eM A i y else eM A x y:=by
 unfold ZT eM;rw [Kat _ _ _ _ hi];split
 ·generalize A.getD i []=l;rw [List.getD_eq_getElem?_getD,List.getD_eq_getElem?_getD,List.getElem?_map]
  cases l[y]?<;>simp
 ·rfl
theorem YY {n c t:Nat} {s:Dg} (h:ShD n c s) (ht:t<n) :
  ShD n c (XF t s)
  /\ (∀x y,eM (XF t s).a x y=if x=t/\eM s.a t t<0 then -eM s.a t y else eM s.a x y)
  /\ (∀x y,eM (XF t s).l x y=if x=t/\eM s.a t t<0 then -eM s.l t y else eM s.l x y)
  /\ (XF t s).r=s.r:=by
 unfold XF
 by_cases hn:eM s.a t t<0
 ·obtain ⟨la,ra,ll,rl,lr,rr⟩:=h;rw [if_pos hn];refine ⟨⟨?_,?_,?_,?_,lr,rr⟩,?_,?_,rfl⟩
  ·show (ZT t s.a).length=n;unfold ZT;rw [List.length_set];exact la
  ·exact Y4 ra (by rw [List.length_map];exact KaH ra (by omega))
  ·show (ZT t s.l).length=n;unfold ZT;rw [List.length_set];exact ll
  ·exact Y4 rl (by rw [List.length_map];exact KaH rl (by omega))
  ·intro x y;show eM (ZT t s.a) x y=_;rw [Kfy (by omega)]
   by_cases hx:x=t
   ·rw [if_pos hx,if_pos ⟨hx,hn⟩]
   ·rw [if_neg hx,if_neg (λh=>hx h.1)]
  ·intro x y;show eM (ZT t s.l) x y=_;rw [Kfy (by omega)]
   by_cases hx:x=t
   ·rw [if_pos hx,if_pos ⟨hx,hn⟩]
   ·rw [if_neg hx,if_neg (λh=>hx h.1)]
 ·rw [if_neg hn];refine ⟨h,?_,?_,rfl⟩
  ·intro x y;rw [if_neg (λh=>hn h.2)]
  ·intro x y;rw [if_neg (λh=>hn h.2)]
def Bst (A:Mx) (D:Nat->Nat->Prop):Option (Nat×Nat)->Prop
 | none => ∀i k,D i k->eM A i k=0
 | some (i,k)=>D i k/\eM A i k≠0 /\ ∀i' k',D i' k'->eM A i' k'=0\/((eM A i k).natAbs<=(eM A i' k').natAbs/\((i'<i\/(i'=i/\k'<k))->(eM A i k).natAbs<(eM A i' k').natAbs))
theorem Kks {A:Mx} {D:Nat->Nat->Prop} {b:Option (Nat×Nat)} {i k:Nat} (h:Bst A D b) (hn : ∀i' k',D i' k'->i'<i\/(i'=i/\k'<k)):Bst A (λi' k'=>D i' k'\/(i'=i/\k'=k)) (KcU A b i k):=by
 unfold KcU
 by_cases hz:eM A i k=0
 ·rw [if_pos hz]
  cases b with
  | none =>
   intro i' k' hd
   rcases hd with hd | ⟨rfl,rfl⟩
   ·exact h i' k' hd
   ·exact hz
  | some p =>
   obtain ⟨x,y⟩:=p;obtain ⟨h1,h2,h3⟩:=h;refine ⟨.inl h1,h2,λi' k' hd => ?_⟩
   rcases hd with hd | ⟨rfl,rfl⟩
   ·exact h3 i' k' hd
   ·exact .inl hz
 ·rw [if_neg hz]
  cases b with
  | none =>
   refine ⟨.inr ⟨rfl,rfl⟩,hz,λi' k' hd => ?_⟩
   rcases hd with hd | ⟨rfl,rfl⟩
   ·exact .inl (h i' k' hd)
   ·exact .inr ⟨Nat.le_refl _,λh=>by omega⟩
  | some p =>
   obtain ⟨x,y⟩:=p;obtain ⟨h1,h2,h3⟩:=h;simp only
   by_cases hlt:(eM A i k).natAbs<(eM A x y).natAbs
   ·rw [if_pos hlt];refine ⟨.inr ⟨rfl,rfl⟩,hz,λi' k' hd => ?_⟩
    rcases hd with hd | ⟨rfl,rfl⟩
    ·rcases h3 i' k' hd with h4 | ⟨h4,_⟩
     ·exact .inl h4
     ·exact .inr ⟨by omega,λ_=>by omega⟩
    ·exact .inr ⟨Nat.le_refl _,λh=>by omega⟩
   ·rw [if_neg hlt];refine ⟨.inl h1,h2,λi' k' hd => ?_⟩
    rcases hd with hd | ⟨rfl,rfl⟩
    ·exact h3 i' k' hd
    ·refine .inr ⟨by omega,λh => ?_⟩;have:=hn x y h1;omega
theorem Bst.congr {A:Mx} {D E:Nat->Nat->Prop} {b:Option (Nat×Nat)} (h:Bst A D b) (he : ∀i k,D i k↔E i k):Bst A E b:=by
 have:D=E:=funext λi=>funext λk=>propext (he i k)
 rwa [this] at h
theorem Ka7 {A:Mx} {t i w:Nat} {b:Option (Nat×Nat)} (h:Bst A (λi' k'=>t<=i'/\i'<t+i/\t<=k'/\k'<t+w) b) : ∀k,k<=w ->
  Bst A (λi' k'=>t<=i'/\t<=k'/\((i'<t+i/\k'<t+w)\/(i'=t+i/\k'<t+k))) (ZB A (t+i) t b k)
 | 0,_=>h.congr λi' k'=>by omega
 | k+1,hk=>by
  rw [ZB];refine (Kks (Ka7 h k (by omega)) λi' k' hd=>by omega).congr λi' k' => ?_
  omega
theorem Ka6 {A:Mx} {t w:Nat} : ∀i,Bst A (λi' k'=>t<=i'/\i'<t+i/\t<=k'/\k'<t+w) (QN A t w i)
 | 0=>λi k h=>by omega
 | i+1=>by
  rw [QN];exact (Ka7 (Ka6 i) w (Nat.le_refl _)).congr λi' k'=>by omega
theorem Kej {t n c:Nat} {s:Dg} (h:ShD n c s) : ∀j,t+j<n->(Yo t j s=true ↔ ∀i,t<i->i<=t+j->(eM s.a i t).fmod (eM s.a t t)=0)
 | 0,_=>⟨λ_ i h1 h2=>by omega,λ_=>rfl⟩
 | j+1,hj=>by
  have ih:=Kej h (t:=t) j (by omega);have hr:=λi=>(QZ t s (by rw [h.ll,h.la]) j (by rw [h.la];omega) i).1
  have e1:eM (Kn t j s).a (t+1+j) t=eM s.a (t+1+j) t:=by unfold eM;rw [hr,if_neg (by omega)]
  have e2:eM (Kn t j s).a t t=eM s.a t t:=by unfold eM;rw [hr,if_neg (by omega)]
  rw [Yo,Bool.and_eq_true,decide_eq_true_eq,e1,e2,ih];constructor
  ·rintro ⟨h1,h2⟩ i h3 h4
   by_cases e:i=t+1+j
   ·subst e;exact h2
   ·exact h1 i h3 (by omega)
  ·intro h1;exact ⟨λi h3 h4=>h1 i h3 (by omega),h1 _ (by omega) (by omega)⟩
theorem Kdz {t c:Nat} {s:Dg} (hR:Ku c s.a) (ht:t<s.a.length) : ∀j,t+j<c->(Yg t j s=true ↔ ∀k,t<k->k<=t+j->(eM s.a t k).fmod (eM s.a t t)=0)
 | 0,_=>⟨λ_ i h1 h2=>by omega,λ_=>rfl⟩
 | j+1,hj=>by
  have ih:=Kdz hR ht j (by omega);obtain ⟨e1,e2⟩:=Kfa t c s hR ht j (by omega);rw [Yg,Bool.and_eq_true,decide_eq_true_eq,e1,e2,ih];constructor
  ·rintro ⟨h1,h2⟩ i h3 h4
   by_cases e:i=t+1+j
   ·subst e;exact h2
   ·exact h1 i h3 (by omega)
  ·intro h1;exact ⟨λi h3 h4=>h1 i h3 (by omega),h1 _ (by omega) (by omega)⟩
theorem KgO {n c t:Nat} {s:Dg} (h:ShD n c s) (ht:t<n) (htc:t<c) :
  XO n c t s=true↔(∀i,t<i->i<n->(eM s.a i t).fmod (eM s.a t t)=0)/\(∀k,t<k->k<c->(eM s.a t k).fmod (eM s.a t t)=0):=by
 have hr:=λi=>(QZ t s (by rw [h.ll,h.la]) (n-(t+1)) (by rw [h.la];omega) i).1
 have hR1:Ku c (Kn t (n-(t+1)) s).a:=λr hr2=>by
  obtain ⟨i,hi,rfl⟩:=List.getElem_of_mem hr2;have h4:=hr i;rw [Ka hi] at h4;have hl2:(s.a.getD i []).length=c:=KaH h.ra (by have:=(ZU t s (n-(t+1))).1;omega);rw [h4];split
  ·rw [KV];exact hl2
  ·exact hl2
 have et : ∀k,eM (Kn t (n-(t+1)) s).a t k=eM s.a t k:=λk=>by unfold eM;rw [hr,if_neg (by omega)]
 unfold XO;rw [Bool.and_eq_true,Kej h _ (by omega),Kdz hR1 (by rw [(ZU t s (n-(t+1))).1,h.la];exact ht) _ (by omega)];constructor
 ·rintro ⟨h1,h2⟩;refine ⟨λi a b=>h1 i a (by omega),λk a b => ?_⟩;have:=h2 k a (by omega);rwa [et,et] at this
 ·rintro ⟨h1,h2⟩;refine ⟨λi a b=>h1 i a (by omega),λk a b => ?_⟩;rw [et,et];exact h2 k a (by omega)
theorem KaR {A:Mx} {t i:Nat} : ∀w,(Xl A t i w=true ↔ ∃k,t<k/\k<=t+w/\(eM A i k).fmod (eM A t t)≠0)
 | 0=>⟨λh=>(by cases h),λ⟨k,h1,h2,_⟩=>by omega⟩
 | w+1=>by
  rw [Xl,Bool.or_eq_true,KaR w,decide_eq_true_eq];constructor
  ·rintro (⟨k,h1,h2,h3⟩ | h)
   ·exact ⟨k,h1,by omega,h3⟩
   ·exact ⟨t+1+w,by omega,by omega,h⟩
  ·rintro ⟨k,h1,h2,h3⟩
   by_cases e:k=t+1+w
   ·subst e;exact .inr h3
   ·exact .inl ⟨k,h1,by omega,h3⟩
theorem Kes {A:Mx} {t w x:Nat} : ∀{j},Q6 A t w j=some x->t<x/\x<=t+j /\ ∃k,t<k/\k<=t+w/\(eM A x k).fmod (eM A t t)≠0
 | 0,h=>by cases h
 | j+1,h=>by
  rw [Q6] at h
  cases hs:Q6 A t w j with
  | some y =>
   rw [hs] at h;injection h with h;subst h
   obtain ⟨h1,h2,h3⟩:=Kes hs;exact ⟨h1,by omega,h3⟩
  | none =>
   rw [hs] at h;simp only at h;split at h
   ·rename_i hb
    injection h with h;subst h
    exact ⟨by omega,by omega,(KaR w).1 hb⟩
   ·cases h
theorem Ker {A:Mx} {t w:Nat} : ∀{j},Q6 A t w j=none -> ∀i k,t<i->i<=t+j->t<k->k<=t+w->(eM A i k).fmod (eM A t t)=0
 | 0,_,i,k,h1,h2,_,_=>by omega
 | j+1,h,i,k,h1,h2,h3,h4=>by
  rw [Q6] at h
  cases hs:Q6 A t w j with
  | some y=>rw [hs] at h;cases h
  | none =>
   rw [hs] at h;simp only at h;split at h
   ·cases h
   ·rename_i hb
    by_cases e:i=t+1+j
    ·subst e;refine Classical.byContradiction λhc=>hb ((KaR w).2 ⟨k,h3,h4,hc⟩)
    ·exact Ker hs i k h1 (by omega) h3 h4
structure KeQ (n c t:Nat) (s:Dg) (i k:Nat):Prop where
 i0:t<=i
 i1:i<n
 k0:t<=k
 k1:k<c
 ne:eM s.a i k≠0
 le : ∀i' k',t<=i'->i'<n->t<=k'->k'<c->eM s.a i' k'=0\/((eM s.a i k).natAbs<=(eM s.a i' k').natAbs/\((i'<i\/(i'=i/\k'<k))->(eM s.a i k).natAbs<(eM s.a i' k').natAbs))
inductive Rnd (n c t:Nat) (s:Dg):Option (Nat×Dg)->Prop
 | stop (h : ∀i k,t<=i->i<n->t<=k->k<c->eM s.a i k=0):Rnd n c t s none
 | un (i k:Nat) (hp:KeQ n c t s i k) (h:(∃x,t<x/\x<n/\(eM (Kp t i k s).a x t).fmod (eM (Kp t i k s).a t t)≠0)\/(∃y,t<y/\y<c/\(eM (Kp t i k s).a t y).fmod (eM (Kp t i k s).a t t)≠0)) :
   Rnd n c t s (some (t,Kw n c t (Kp t i k s)))
 | sp (i k j y:Nat) (hp:KeQ n c t s i k) (h1 : ∀x,t<x->x<n->(eM (Kp t i k s).a x t).fmod (eM (Kp t i k s).a t t)=0) (h2 : ∀y,t<y->y<c->(eM (Kp t i k s).a t y).fmod (eM (Kp t i k s).a t t)=0)
   (hj:t<j) (hj1:j<n) (hy:t<y) (hy1:y<c) (hb:(eM (Kw n c t (Kp t i k s)).a j y).fmod (eM (Kw n c t (Kp t i k s)).a t t)≠0) :
   Rnd n c t s (some (t,JE t j (Kw n c t (Kp t i k s))))
 | fin (i k:Nat) (hp:KeQ n c t s i k) (h1 : ∀x,t<x->x<n->(eM (Kp t i k s).a x t).fmod (eM (Kp t i k s).a t t)=0) (h2 : ∀y,t<y->y<c->(eM (Kp t i k s).a t y).fmod (eM (Kp t i k s).a t t)=0)
   (h3 : ∀j y,t<j->j<n->t<y->y<c->(eM (Kw n c t (Kp t i k s)).a j y).fmod (eM (Kw n c t (Kp t i k s)).a t t)=0) :
   Rnd n c t s (some (t+1,XF t (Kw n c t (Kp t i k s))))
theorem Ya {n c t:Nat} {s:Dg} (h:ShD n c s):Rnd n c t s (Xc n c t s):=by
 have hb:=Ka6 (A:=s.a) (t:=t) (w:=c-t) (n-t);unfold Xc
 cases hB:QN s.a t (c-t) (n-t) with
 | none =>
  rw [hB] at hb;exact .stop λi k h1 h2 h3 h4=>hb i k ⟨h1,by omega,h3,by omega⟩
 | some p =>
  obtain ⟨i,k⟩:=p;rw [hB] at hb;obtain ⟨⟨d1,d2,d3,d4⟩,hne,hle⟩:=hb;have hp:KeQ n c t s i k:=⟨d1,by omega,d3,by omega,hne,λi' k' a1 a2 a3 a4=>hle i' k' ⟨a1,by omega,a3,by omega⟩⟩
  have hsw:=(Q0 h (show t<n by omega) hp.i1 (show t<c by omega) hp.k1).1;have hck:=KgO hsw (show t<n by omega) (show t<c by omega);simp only
  by_cases hok:XO n c t (Kp t i k s)=true
  ·rw [if_pos hok];obtain ⟨h1,h2⟩:=hck.1 hok
   cases hs:Q6 (Kw n c t (Kp t i k s)).a t (c-(t+1)) (n-(t+1)) with
   | some j =>
    obtain ⟨j1,j2,y,y1,y2,y3⟩:=Kes hs;exact .sp i k j y hp h1 h2 j1 (by omega) y1 (by omega) y3
   | none =>
    exact .fin i k hp h1 h2 λj y a1 a2 a3 a4=>Ker hs j y a1 (by omega) a3 (by omega)
  ·rw [if_neg hok];refine .un i k hp (Classical.byContradiction λhc=>hok (hck.2 ⟨λx a b => ?_,λy a b => ?_⟩))
   ·exact Classical.byContradiction λh=>hc (.inl ⟨x,a,b,h⟩)
   ·exact Classical.byContradiction λh=>hc (.inr ⟨y,a,b,h⟩)
end
end Go.Proofs.YtdmaofimeknkbaaGreatDoor
