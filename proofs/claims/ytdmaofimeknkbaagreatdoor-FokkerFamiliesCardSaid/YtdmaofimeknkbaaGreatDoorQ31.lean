/- Part 31 of the proof of the claim: contracts of the functions that it reaches, and plain laws; no condition. -/
import Derived.Test.YtdmaofimeknkbaaGreatDoorQ30
set_option maxRecDepth 100000
set_option maxHeartbeats 20000000
namespace Go.Proofs.YtdmaofimeknkbaaGreatDoor
section
def OkD (E n c t:Nat) (s:Dg):Prop := ∃f R,Ka0 E n c f t s=some R
theorem Kbq {E n c t:Nat} {s:Dg} (hb:KcT E s=true) (h:Xc n c t s=none):OkD E n c t s:=⟨1,(t,s),by rw [Ka0,if_pos hb,h]⟩
theorem Jn {E n c t:Nat} {s:Dg} {p:Nat×Dg} (hb:KcT E s=true) (h:Xc n c t s=some p) (hk:OkD E n c p.1 p.2):OkD E n c t s:=by
 obtain ⟨f,R,hf⟩:=hk;exact ⟨f+1,R,by rw [Ka0,if_pos hb,h];exact hf⟩
def Bme (E:Nat) (A:Mx):Prop := ∀i k,(eM A i k).natAbs<2^E
theorem Bme.mono {E F:Nat} {A:Mx} (h:Bme E A) (hf:E<=F):Bme F A:=λi k=>Nat.lt_of_lt_of_le (h i k) (Nat.pow_le_pow_right (by omega) hf)
theorem Bme.bdd {E:Nat} {A:Mx} (h:Bme E A):Kl0 E A=true:=by
 refine List.all_eq_true.2 λr hr=>List.all_eq_true.2 λz hz=>decide_eq_true ?_
 obtain ⟨i,hi,rfl⟩:=List.getElem_of_mem hr;obtain ⟨k,hk,rfl⟩:=List.getElem_of_mem hz;have:=h i k;unfold eM at this;rwa [Ka hi,Ka hk] at this
theorem Kdp {E Ea El:Nat} {s:Dg} (ha:Bme Ea s.a) (hl:Bme El s.l) (hr:Bme El s.r) (h1:Ea<=E) (h2:El<=E):KcT E s=true:=by
 unfold KcT;rw [(ha.mono h1).bdd,(hl.mono h2).bdd,(hr.mono h2).bdd];rfl
structure ZS (n c t:Nat) (s:Dg):Prop where
 sh:ShD n c s
 zo : ∀i k,i≠k->(i<t\/k<t)->eM s.a i k=0
theorem KeA {t i x:Nat} (hi:t<=i) (hx:x<t):sx t i x=x:=by unfold sx;rw [if_neg (by omega),if_neg (by omega)]
theorem Kkf {t i x:Nat} (hi:t<=i) (hx:t<=x):t<=sx t i x:=by unfold sx;split<;>(try split)<;>omega
theorem Kdi (t x:Nat):sx t t x=x:=by unfold sx;split<;>(try split)<;>omega
theorem ZS.swap {n c t i k:Nat} {s:Dg} (h:ZS n c t s) (hi0:t<=i) (hi:i<n) (hk0:t<=k) (hk:k<c):ZS n c t (Kp t i k s) /\ ∀x,x<t->eM (Kp t i k s).a x x=eM s.a x x:=by
 obtain ⟨h1,h2,_,_⟩:=Q0 h.sh (show t<n by omega) hi (show t<c by omega) hk;refine ⟨⟨h1,λx y hne ho => ?_⟩,λx hx=>by rw [h2,KeA hi0 hx,KeA hk0 hx]⟩;rw [h2]
 by_cases hx:x<t
 ·rw [KeA hi0 hx]
  by_cases hy:y<t
  ·rw [KeA hk0 hy];exact h.zo x y hne ho
  ·have:=Kkf hk0 (show t<=y by omega);exact h.zo _ _ (by omega) (.inl hx)
 ·have hy:y<t:=by omega
  rw [KeA hk0 hy];have:=Kkf hi0 (show t<=x by omega);exact h.zo _ _ (by omega) (.inr hy)
theorem ZS.clear {n c t:Nat} {s:Dg} (h:ZS n c t s) (ht:t<n) (htc:t<c):ZS n c t (Kw n c t s) /\ ∀x,x<t->eM (Kw n c t s).a x x=eM s.a x x:=by
 obtain ⟨h1,h2,_,_⟩:=Ql h.sh ht htc;refine ⟨⟨h1,λx y hne ho => ?_⟩,λx hx=>by rw [h2,if_neg (by omega),if_neg (by omega),Int.sub_zero]⟩;rw [h2]
 by_cases hx:t<x
 ·have hy:y<t:=by omega
  rw [if_pos hx,if_neg (by omega),h.zo x y hne ho,h.zo t y (by omega) (.inr hy)];simp
 ·rw [if_neg hx,h.zo x y hne ho]
  by_cases hy:t<y
  ·rw [if_pos hy,if_neg hx,h.zo x t (by omega) (.inl (by omega))];simp
  ·rw [if_neg hy];simp
theorem ZS.add {n c t i:Nat} {s:Dg} (h:ZS n c t s) (ht:t<n) (hi0:t<i) (hi:i<n):ZS n c t (JE t i s) /\ ∀x,x<t->eM (JE t i s).a x x=eM s.a x x:=by
 obtain ⟨h1,h2,_,_⟩:=XZ h.sh ht hi;refine ⟨⟨h1,λx y hne ho => ?_⟩,λx hx=>by rw [h2,if_neg (by omega)]⟩;rw [h2];split
 ·rename_i hx
  rw [h.zo t y (by omega) (by omega),h.zo i y (by omega) (by omega)];rfl
 ·exact h.zo x y hne ho
theorem ZS.posn {n c t:Nat} {s:Dg} (h:ZS n c t s) (ht:t<n) (h1 : ∀x,t<x->eM s.a x t=0) (h2 : ∀y,t<y->eM s.a t y=0):ZS n c (t+1) (XF t s) /\ ∀x,x<t->eM (XF t s).a x x=eM s.a x x:=by
 obtain ⟨k1,k2,_,_⟩:=YY h.sh ht
 have hz : ∀x y,x≠y->(x<t+1\/y<t+1)->eM s.a x y=0:=by
  intro x y hne ho
  by_cases hx:x=t
  ·subst hx
   by_cases hy:x<y
   ·exact h2 y hy
   ·exact h.zo _ _ hne (.inr (by omega))
  ·by_cases hy:y=t
   ·subst hy
    by_cases hx2:y<x
    ·exact h1 x hx2
    ·exact h.zo _ _ hne (.inl (by omega))
   ·exact h.zo _ _ hne (by omega)
 refine ⟨⟨k1,λx y hne ho => ?_⟩,λx hx=>by rw [k2,if_neg (by omega)]⟩;rw [k2];split
 ·rename_i hx;rw [<-hx.1,hz x y hne ho];rfl
 ·exact hz x y hne ho
theorem KeQ.any {n c t i k:Nat} {s:Dg} (h:KeQ n c t s i k) (hs:ShD n c s) {i' k':Nat} (h1:t<=i') (h2:t<=k'):eM s.a i' k'=0\/((eM s.a i k).natAbs<=(eM s.a i' k').natAbs/\((i'<i\/(i'=i/\k'<k))->(eM s.a i k).natAbs<(eM s.a i' k').natAbs)):=by
 by_cases hi:i'<n
 ·by_cases hk:k'<c
  ·exact h.le i' k' h1 hi h2 hk
  ·exact .inl (YM hs.ra (by omega) _)
 ·exact .inl (QU (by have:=hs.la;omega) _)
theorem KeQ.piv {n c t i k:Nat} {s:Dg} (h:KeQ n c t s i k) (hs:ShD n c s):eM (Kp t i k s).a t t=eM s.a i k:=by
 obtain ⟨_,h2,_,_⟩:=Q0 hs (show t<n by have:=h.i0;have:=h.i1;omega) h.i1 (show t<c by have:=h.k0;have:=h.k1;omega) h.k1;have h0:=h.i0;have h1:=h.k0;rw [h2];have e1:sx t i t=i:=by unfold sx;split<;>(try split)<;>omega
 have e2:sx t k t=k:=by unfold sx;split<;>(try split)<;>omega
 rw [e1,e2]
theorem pw1 (a b:Nat):2^a*2^b=2^(a+b):=(Nat.pow_add 2 a b).symm
theorem pwS (a:Nat):2^(a+1)=2*2^a:=by rw [Nat.pow_succ];omega
theorem pw0 (a:Nat):0<2^a:=Nat.pow_pos (by omega)
theorem Kpn {E G:Nat} {a q b:Int} (ha:a.natAbs<2^G) (hq:q.natAbs<2^E) (hb:b.natAbs<2^G):(a-q*b).natAbs<2^(G+E+1):=by
 have h1:(q*b).natAbs<=2^E*2^G:=by rw [Int.natAbs_mul];exact Nat.mul_le_mul (Nat.le_of_lt hq) (Nat.le_of_lt hb)
 rw [pw1] at h1;rw [pwS,show G+E=E+G by omega];have h2:2^G<=2^(E+G):=Nat.pow_le_pow_right (by omega) (by omega);omega
theorem Kgg {n c t i k G:Nat} {s:Dg} (h:ShD n c s) (ht:t<n) (hi:i<n) (htc:t<c) (hk:k<c) (hl:Bme G s.l) (hr:Bme G s.r):Bme G (Kp t i k s).l/\Bme G (Kp t i k s).r:=by
 obtain ⟨_,_,h3,h4⟩:=Q0 h ht hi htc hk;exact ⟨λx y=>by rw [h3];exact hl _ _,λx y=>by rw [h4];exact hr _ _⟩
theorem q_b {A:Mx} {E x y t:Nat} (h:Bme E A) (hp:eM A t t≠0):((eM A x y).fdiv (eM A t t)).natAbs<2^E:=Nat.lt_of_le_of_lt (Zi _ hp) (h _ _)
theorem KdW {n c t E G:Nat} {s:Dg} (h:ShD n c s) (ht:t<n) (htc:t<c) (hp:eM s.a t t≠0) (ha:Bme E s.a) (hl:Bme G s.l) (hr:Bme G s.r):Bme (G+E+1) (Kw n c t s).l/\Bme (G+E+1) (Kw n c t s).r:=by
 obtain ⟨_,_,h3,h4⟩:=Ql h ht htc;have hm:2^G<=2^(G+E+1):=Nat.pow_le_pow_right (by omega) (by omega);constructor
 ·intro x y;rw [h3];split
  ·exact Kpn (hl _ _) (q_b ha hp) (hl _ _)
  ·have:=hl x y;omega
 ·intro x y;rw [h4];split
  ·exact Kpn (hr _ _) (q_b ha hp) (hr _ _)
  ·have:=hr x y;omega
theorem Km1 {n c t i G:Nat} {s:Dg} (h:ShD n c s) (ht:t<n) (hi:i<n) (hl:Bme G s.l) (hr:Bme G s.r):Bme (G+1) (JE t i s).l/\Bme (G+1) (JE t i s).r:=by
 obtain ⟨_,_,h3,h4⟩:=XZ h ht hi;refine ⟨λx y => ?_,by rw [h4];exact hr.mono (by omega)⟩;rw [h3,pwS];have h1:=hl t y;have h2:=hl i y;have h5:=hl x y;split<;>omega
theorem Km2 {n c t G:Nat} {s:Dg} (h:ShD n c s) (ht:t<n) (hl:Bme G s.l) (hr:Bme G s.r):Bme G (XF t s).l/\Bme G (XF t s).r:=by
 obtain ⟨_,_,h3,h4⟩:=YY h ht;refine ⟨λx y => ?_,by rw [h4];exact hr⟩;rw [h3];have h1:=hl t y;have h5:=hl x y;split<;>omega
theorem Kpe {n c t G:Nat} {s:Dg} (h:ShD n c s) (ht:t<n) (ha:Bme G s.a):Bme G (XF t s).a:=by
 obtain ⟨_,h3,_,_⟩:=YY h ht;intro x y;rw [h3];have h1:=ha t y;have h5:=ha x y;split<;>omega
def qdB (t:Nat) (A:Mx):Qd:=⟨eM A t t,eM A t (t+1),eM A (t+1) t,eM A (t+1) (t+1)⟩
theorem Kni {n c t i k:Nat} {s:Dg} (h:ShD n c s) (hn:n<=t+2) (hc:c<=t+2) (hp:KeQ n c t s i k):KbQ (qdB t s.a) (qdB t (Kp t i k s).a):=by
 have i0:=hp.i0;have i1:=hp.i1;have k0:=hp.k0;have k1:=hp.k1;obtain ⟨_,h2,_,_⟩:=Q0 h (show t<n by omega) i1 (show t<c by omega) k1;have hpv:=hp.piv h;have a1:=hp.any h (Nat.le_refl t) (Nat.le_refl t);have a2:=hp.any h (Nat.le_refl t) (show t<=t+1 by omega);have a3:=hp.any h (show t<=t+1 by omega) (Nat.le_refl t);have a4:=hp.any h (show t<=t+1 by omega) (show t<=t+1 by omega);have hne:=hp.ne;rw [<-hpv] at a1 a2 a3 a4 hne;have e0:(qdB t (Kp t i k s).a).x=eM (Kp t i k s).a t t:=rfl;refine ⟨hne,?_,?_,?_,?_,?_⟩
 ·rcases a1 with a | a
  ·exact .inl a
  ·exact .inr a.1
 ·rcases a2 with a | a
  ·exact .inl a
  ·exact .inr a.1
 ·rcases a3 with a | a
  ·exact .inl a
  ·exact .inr a.1
 ·rcases a4 with a | a
  ·exact .inl a
  ·exact .inr a.1
 ·have hi:i=t\/i=t+1:=by omega
  have hk:k=t\/k=t+1:=by omega
  have s0:sx t t t=t:=Kdi _ _;have s1:sx t t (t+1)=t+1:=Kdi _ _;have s2:sx t (t+1) t=t+1:=by unfold sx;split<;>(try split)<;>omega
  have s3:sx t (t+1) (t+1)=t:=by unfold sx;rw [if_pos rfl]
  rcases hi with rfl | rfl<;>rcases hk with rfl | rfl
  ·left
   unfold qdB;rw [h2,h2,h2,h2,s0,s1]
  ·right;left
   refine ⟨?_,?_⟩
   ·unfold qdB;rw [h2,h2,h2,h2,s0,s1,s2,s3]
   ·rcases a1 with a | a
    ·exact .inl a
    ·exact .inr (a.2 (.inr ⟨rfl,by omega⟩))
  ·right;right;left
   refine ⟨?_,?_⟩
   ·unfold qdB;rw [h2,h2,h2,h2,s0,s1,s2,s3]
   ·rcases a1 with a | a
    ·exact .inl a
    ·exact .inr (a.2 (.inl (by omega)))
  ·right;right;right
   refine ⟨?_,?_,?_,?_⟩
   ·unfold qdB;rw [h2,h2,h2,h2,s2,s3]
   ·rcases a1 with a | a
    ·exact .inl a
    ·exact .inr (a.2 (.inl (by omega)))
   ·rcases a2 with a | a
    ·exact .inl a
    ·exact .inr (a.2 (.inl (by omega)))
   ·rcases a3 with a | a
    ·exact .inl a
    ·exact .inr (a.2 (.inr ⟨rfl,by omega⟩))
theorem YQ {n c t:Nat} {s:Dg} (h:ShD n c s) (ht:t<n) (htc:t<c) {x:Nat} (hx:t<x):eM (Kw n c t s).a x t=(eM s.a x t).fmod (eM s.a t t):=by
 rw [(Ql h ht htc).2.1,if_pos hx,if_neg (by omega),Yz,Int.mul_comm];unfold qRw;omega
theorem Z4 {n c t:Nat} {s:Dg} (h:ShD n c s) (ht:t<n) (htc:t<c) {y:Nat} (hy:t<y):eM (Kw n c t s).a t y=(eM s.a t y).fmod (eM s.a t t):=by
 rw [(Ql h ht htc).2.1,if_neg (by omega),if_pos hy,if_neg (by omega),Yz,Int.mul_comm];unfold qC;omega
theorem X5 {n c t:Nat} {s:Dg} (h:ShD n c s) (ht:t<n) (htc:t<c):eM (Kw n c t s).a t t=eM s.a t t:=by
 rw [(Ql h ht htc).2.1,if_neg (by omega),if_neg (by omega)];omega
theorem Kle {n c t:Nat} {s:Dg} (h:ShD n c s) (ht:t<n) (htc:t<c):qdB t (Kw n c t s).a=clq (qdB t s.a):=by
 have h1:=YQ h ht htc (show t<t+1 by omega);have h2:=Z4 h ht htc (show t<t+1 by omega);have h3:=X5 h ht htc;have h4:=(Ql h ht htc).2.1 (t+1) (t+1);rw [if_pos (by omega),if_pos (by omega),if_pos (by omega)] at h4;have h5:=(Ql h ht htc).2.1 (t+1) t;rw [if_pos (by omega),if_neg (by omega),Int.sub_zero] at h5;rw [<-h5,h1] at h4;unfold qdB clq;rw [h1,h2,h3,h4];rfl
theorem KnX {n c t:Nat} {s:Dg} (h:ShD n c s) (ht:t<n) (htc:t<c) (hne:eM s.a t t≠0) (h1 : ∀x,t<x->x<n->(eM s.a x t).fmod (eM s.a t t)=0) : ∀x,t<x->eM (Kw n c t s).a x t=0:=λx hx=>by
 rw [YQ h ht htc hx]
 by_cases h2:x<n
 ·exact h1 x hx h2
 ·rw [QU (by have:=h.la;omega)];exact (fmod_zero' hne).1
theorem KnY {n c t:Nat} {s:Dg} (h:ShD n c s) (ht:t<n) (htc:t<c) (hne:eM s.a t t≠0) (h1 : ∀y,t<y->y<c->(eM s.a t y).fmod (eM s.a t t)=0) : ∀y,t<y->eM (Kw n c t s).a t y=0:=λy hy=>by
 rw [Z4 h ht htc hy]
 by_cases h2:y<c
 ·exact h1 y hy h2
 ·rw [YM h.ra (by omega)];exact (fmod_zero' hne).1
theorem KbS {n c t F:Nat} {s:Dg} (h:ZS n c t s) (hn:n<=t+2) (hc:c<=t+2) (hd : ∀x,x<t->(eM s.a x x).natAbs<2^F) (h0:(qdB t s.a).x.natAbs<2^F) (h1:(qdB t s.a).y.natAbs<2^F) (h2:(qdB t s.a).z.natAbs<2^F) (h3:(qdB t s.a).u.natAbs<2^F):Bme F s.a:=by
 intro i k;have hp:=pw0 F;have hz:eM s.a i k=0->(eM s.a i k).natAbs<2^F:=λh=>by rw [h];simpa using hp
 by_cases hi:i<n
 ·by_cases hk:k<c
  ·by_cases ho:i<t\/k<t
   ·by_cases e:i=k
    ·subst e;exact hd i (by omega)
    ·exact hz (h.zo i k e ho)
   ·rcases (show i=t\/i=t+1 by omega) with e1 | e1<;>rcases (show k=t\/k=t+1 by omega) with e2 | e2<;>rw [e1,e2]
    ·exact h0
    ·exact h1
    ·exact h2
    ·exact h3
  ·exact hz (YM h.sh.ra (by omega) _)
 ·exact hz (QU (by have:=h.sh.la;omega) _)
theorem KiU {n c t F G' Et X D:Nat} (hn:n<=t+2) (hc:c<=t+2) (hXD:D+X<2^F) (hE1:F<=Et) (hE2:G'<=Et)
  (K : ∀s,ZS n c (t+1) s->Bme F s.a->Bme G' s.l->Bme G' s.r->OkD Et n c (t+1) s) :
  ∀N G s,ZS n c t s->Bnd N (qdB t s.a)->IB X D (qdB t s.a)->Bme F s.a->Bme G s.l->Bme G s.r->G+N*(F+2)<=G'->OkD Et n c t s
 | 0,_,_,_,hb,_,_,_,_,_=>hb.elim
 | N+1,G,s,h,hb,hi,ha,hl,hr,hG=>by
  have hG2:G+(F+2)+N*(F+2)<=G':=by rw [Nat.add_mul] at hG;omega
  have hbd:KcT Et s=true:=Kdp ha hl hr hE1 (by omega);have hrn:=Ya (t:=t) h.sh;generalize hst:Xc n c t s=st at hrn
  rcases hrn with h0 | ⟨i,k,hp,hu⟩ | ⟨i,k,j,y,hp,h1,h2,hj,hj1,hy,hy1,hbad⟩ | ⟨i,k,hp,h1,h2,h3⟩
  ·exact Kbq hbd hst
  all_goals
   have i0:=hp.i0;have i1:=hp.i1;have k0:=hp.k0;have k1:=hp.k1;have ht:t<n:=by omega
   have htc:t<c:=by omega
   obtain ⟨hv1,hd1⟩:=h.swap i0 i1 k0 k1;obtain ⟨hl1,hr1⟩:=Kgg h.sh ht i1 htc k1 hl hr;have hpv:=Kni h.sh hn hc hp;have hne:eM (Kp t i k s).a t t≠0:=hpv.ne;have ha1:Bme F (Kp t i k s).a:=λx y=>by rw [(Q0 h.sh ht i1 htc k1).2.1];exact ha _ _
   obtain ⟨hv2,hd2⟩:=hv1.clear ht htc;obtain ⟨hl2,hr2⟩:=KdW hv1.sh ht htc hne ha1 hl1 hr1;have hq2:=Kle hv1.sh ht htc;have hdd : ∀x,x<t->(eM (Kw n c t (Kp t i k s)).a x x).natAbs<2^F:=λx hx=>by rw [hd2 x hx,hd1 x hx];exact ha _ _
  ·have hs:Stp (qdB t s.a) (qdB t (Kw n c t (Kp t i k s)).a):=by
    refine .un _ hpv hq2 ?_;rw [<-hq2]
    rcases hu with ⟨x,x0,x1,x2⟩ | ⟨x,x0,x1,x2⟩
    ·right
     obtain rfl:x=t+1:=by omega
     show eM _ _ _≠0;rw [YQ hv1.sh ht htc x0];exact x2
    ·left
     obtain rfl:x=t+1:=by omega
     show eM _ _ _≠0;rw [Z4 hv1.sh ht htc x0];exact x2
   have hi2:=hi.stp hs;obtain ⟨b1,b2,b3,b4⟩:=hi2.2.1;refine Jn hbd hst (KiU hn hc hXD hE1 hE2 K N _ _ hv2 (hb _ hs) hi2 (KbS (F:=F) hv2 hn hc hdd (Nat.lt_of_le_of_lt b1 hXD) (Nat.lt_of_le_of_lt b2 hXD) (Nat.lt_of_le_of_lt b3 hXD) (Nat.lt_of_le_of_lt b4 hXD)) (hl2.mono (by omega)) (hr2.mono (by omega)) hG2)
  ·obtain ⟨hv3,hd3⟩:=hv2.add ht hj hj1;obtain ⟨hl3,hr3⟩:=Km1 hv2.sh ht hj1 hl2 hr2;obtain ⟨_,ea,_,_⟩:=XZ hv2.sh ht hj1;obtain rfl:j=t+1:=by omega
   obtain rfl:y=t+1:=by omega
   have z1:=KnX hv1.sh ht htc hne h1;have z2:=KnY hv1.sh ht htc hne h2;have hcp:=X5 hv1.sh ht htc
   have hs:Stp (qdB t s.a) (qdB t (JE t (t+1) (Kw n c t (Kp t i k s))).a):=by
    refine .sp _ hpv ?_ ?_ ?_ ?_
    ·rw [<-hq2];exact z2 _ (by omega)
    ·rw [<-hq2];exact z1 _ (by omega)
    ·rw [<-hq2];show (eM _ _ _).fmod (eM _ _ _)≠0;rw [hcp] at hbad;exact hbad
    ·rw [<-hq2];unfold qdB;rw [ea,ea,ea,ea,if_pos rfl,if_pos rfl,if_neg (by omega),if_neg (by omega),z1 (t+1) (by omega),z2 (t+1) (by omega),hcp];simp
   have hi2:=hi.stp hs;obtain ⟨b1,b2,b3,b4⟩:=hi2.2.1;refine Jn hbd hst (KiU hn hc hXD hE1 hE2 K N _ _ hv3 (hb _ hs) hi2 (KbS (F:=F) hv3 hn hc (λx hx=>by rw [hd3 x hx];exact hdd x hx) (Nat.lt_of_le_of_lt b1 hXD) (Nat.lt_of_le_of_lt b2 hXD) (Nat.lt_of_le_of_lt b3 hXD) (Nat.lt_of_le_of_lt b4 hXD)) (hl3.mono (by omega)) (hr3.mono (by omega)) hG2)
  ·have z1:=KnX hv1.sh ht htc hne h1;have z2:=KnY hv1.sh ht htc hne h2
   have hpx:(qdB t (Kp t i k s).a).x.natAbs<=X:=by
    rcases hi.2.2 with hl0 | hl0
    ·exfalso;have hn:=hpv.ne
     rcases hpv.how with e | ⟨e,_⟩ | ⟨e,_⟩ | ⟨e,_⟩
     ·rw [e] at hn;exact hn hl0.1
     ·rw [e] at hn;exact hn hl0.2.1
     ·rw [e] at hn;exact hn hl0.2.2.1
     ·rw [e] at hn;exact hn hl0.2.2.2
    ·have:=hpv.low hl0;omega
   have hcu:=Kph hpv.ne (show _<=D by rw [hpv.det];exact hi.1);rw [<-hq2] at hcu;have hcx:(qdB t (Kw n c t (Kp t i k s)).a).x=(qdB t (Kp t i k s).a).x:=X5 hv1.sh ht htc;have hcy:(qdB t (Kw n c t (Kp t i k s)).a).y=0:=z2 _ (by omega);have hcz:(qdB t (Kw n c t (Kp t i k s)).a).z=0:=z1 _ (by omega);have ha2:Bme F (Kw n c t (Kp t i k s)).a:=KbS hv2 hn hc hdd (by rw [hcx];omega) (by rw [hcy];exact pw0 F) (by rw [hcz];exact pw0 F) (by omega);obtain ⟨hv3,_⟩:=hv2.posn ht z1 z2;obtain ⟨hl3,hr3⟩:=Km2 hv2.sh ht hl2 hr2;exact Jn hbd hst (K _ hv3 (Kpe hv2.sh ht ha2) (hl3.mono (by omega)) (hr3.mono (by omega)))
theorem Kj0 {n c t E G G' Et:Nat} (hn:n<=t+2) (hc:c<=t+2) (hE1:2*E+2<=Et) (hE2:G'<=Et) (hG:G+(4*E+1)*(2*E+4)<=G')
  (K : ∀s,ZS n c (t+1) s->Bme (2*E+2) s.a->Bme G' s.l->Bme G' s.r->OkD Et n c (t+1) s) {s:Dg} (h:ZS n c t s) (ha:Bme E s.a) (hl:Bme G s.l) (hr:Bme G s.r):OkD Et n c t s:=by
 have hq : ∀i k,(eM s.a i k).natAbs<2^E:=ha
 have hpr : ∀i k i' k',(eM s.a i k*eM s.a i' k').natAbs<=2^(E+E):=λi k i' k'=>by
  rw [Int.natAbs_mul,<-pw1];exact Nat.mul_le_mul (Nat.le_of_lt (hq _ _)) (Nat.le_of_lt (hq _ _))
 have e1:2^(2*E+2)=4*2^(E+E):=by rw [show 2*E+2=(E+E)+1+1 by omega,pwS,pwS];omega
 have e2:2^E<=2^(E+E):=Nat.pow_le_pow_right (by omega) (by omega);have hp:=pw0 (E+E);refine KiU (F:=2*E+2) (X:=2^E) (D:=2*2^(E+E)) hn hc (by omega) hE1 hE2 K (4*E+1) G s h (Kn7 (hq _ _) (hq _ _) (hq _ _) (hq _ _)) ?_ (ha.mono (by omega)) hl hr (by rw [show 2*E+2+2=2*E+4 by omega];exact hG);have a1:=hq t t;have a2:=hq t (t+1);have a3:=hq (t+1) t;have a4:=hq (t+1) (t+1);have m1:=hpr t t (t+1) (t+1);have m2:=hpr t (t+1) (t+1) t;refine ⟨by unfold qdB;simp only;omega,⟨by unfold qdB;simp only;omega,by unfold qdB;simp only;omega,by unfold qdB;simp only;omega,by unfold qdB;simp only;omega⟩,?_⟩
 by_cases b1:eM s.a t t=0
 ·by_cases b2:eM s.a t (t+1)=0
  ·by_cases b3:eM s.a (t+1) t=0
   ·by_cases b4:eM s.a (t+1) (t+1)=0
    ·exact .inl ⟨b1,b2,b3,b4⟩
    ·exact .inr ⟨_,.inr (.inr (.inr rfl)),b4,by unfold qdB;simp only;omega⟩
   ·exact .inr ⟨_,.inr (.inr (.inl rfl)),b3,by unfold qdB;simp only;omega⟩
  ·exact .inr ⟨_,.inr (.inl rfl),b2,by unfold qdB;simp only;omega⟩
 ·exact .inr ⟨_,.inl rfl,b1,by unfold qdB;simp only;omega⟩
abbrev FM:=Nat->Nat->Int
def m2 (A:FM) (i j k l:Nat):Int:=A i k*A j l-A i l*A j k
def m3 (A:FM) (i j h k l p:Nat):Int:=A i k*m2 A j h l p-A i l*m2 A j h k p+A i p*m2 A j h k l
def X1 (x:Int) (A:FM):Prop := ∀i k,x∣A i k
def X2 (x:Int) (A:FM):Prop := ∀i j k l,x∣m2 A i j k l
def X3 (x:Int) (A:FM):Prop := ∀i j h k l p,x∣m3 A i j h k l p
structure Eqv (A B:FM):Prop where
 e1 : ∀x,X1 x A↔X1 x B
 e2 : ∀x,X2 x A↔X2 x B
 e3 : ∀x,X3 x A↔X3 x B
theorem Eqv.refl (A:FM):Eqv A A:=⟨λ_=>Iff.rfl,λ_=>Iff.rfl,λ_=>Iff.rfl⟩
theorem Eqv.symm {A B:FM} (h:Eqv A B):Eqv B A:=⟨λx=>(h.e1 x).symm,λx=>(h.e2 x).symm,λx=>(h.e3 x).symm⟩
theorem Eqv.trans {A B C:FM} (h:Eqv A B) (g:Eqv B C):Eqv A C:=⟨λx=>(h.e1 x).trans (g.e1 x),λx=>(h.e2 x).trans (g.e2 x),λx=>(h.e3 x).trans (g.e3 x)⟩
def tr (A:FM):FM:=λi k=>A k i
theorem Kht (A:FM) (i j k l:Nat):m2 (tr A) i j k l=m2 A k l i j:=by unfold m2 tr;rw [Int.mul_comm (A l i)]
theorem Kpo (A:FM) (i j h k l p:Nat):m3 (tr A) i j h k l p=m3 A k l p i j h:=by
 unfold m3;rw [Kht,Kht,Kht];unfold m2 tr
 generalize A k i=a1;generalize A l i=a2;generalize A p i=a3;generalize A k j=b1;generalize A l j=b2;generalize A p j=b3;generalize A k h=c1;generalize A l h=c2;generalize A p h=c3
 grind
theorem Kmv (A:FM):Eqv A (tr A) :=
  ⟨λ_=>⟨λh i k=>h k i,λh i k=>h k i⟩,λ_=>⟨λh i j k l=>by rw [Kht];exact h _ _ _ _,λh i j k l=>by have:=h k l i j;rwa [Kht] at this⟩,
   λ_=>⟨λh i j m k l p=>by rw [Kpo];exact h _ _ _ _ _ _,λh i j m k l p=>by have:=h k l p i j m;rwa [Kpo] at this⟩⟩
theorem Kqt {t:Nat} {f:Nat->Int} {A B:FM} (h : ∀i k,B i k=A i k-f i*A t k) (i j k l:Nat):m2 B i j k l=m2 A i j k l-f j*m2 A i t k l-f i*m2 A t j k l:=by
 unfold m2;rw [h,h,h,h]
 generalize A i k=a1;generalize A i l=a2;generalize A j k=b1;generalize A j l=b2;generalize A t k=c1;generalize A t l=c2;generalize f i=u;generalize f j=v
 grind
theorem Kqu {t:Nat} {f:Nat->Int} {A B:FM} (h : ∀i k,B i k=A i k-f i*A t k) (i j m k l p:Nat):m3 B i j m k l p=m3 A i j m k l p-f m*m3 A i j t k l p-f j*m3 A i t m k l p-f i*m3 A t j m k l p:=by
 unfold m3 m2;rw [h i k,h i l,h i p,h j k,h j l,h j p,h m k,h m l,h m p]
 generalize A i k=a1;generalize A i l=a2;generalize A i p=a3;generalize A j k=b1;generalize A j l=b2;generalize A j p=b3;generalize A m k=d1;generalize A m l=d2;generalize A m p=d3
 generalize A t k=c1;generalize A t l=c2;generalize A t p=c3;generalize f i=u;generalize f j=v;generalize f m=w
 grind
theorem Jh {x a b c:Int} (h1:x∣a) (h2:x∣b):x∣a-c*b:=Int.dvd_sub h1 (Int.dvd_trans h2 (Int.dvd_mul_left c b))
theorem X9 {t:Nat} {f:Nat->Int} {A B:FM} (h : ∀i k,B i k=A i k-f i*A t k) (x:Int):(X1 x A->X1 x B)/\(X2 x A->X2 x B)/\(X3 x A->X3 x B) :=
  ⟨λha i k=>by rw [h];exact Jh (ha _ _) (ha _ _),λha i j k l=>by rw [Kqt h];exact Jh (Jh (ha _ _ _ _) (ha _ _ _ _)) (ha _ _ _ _),
   λha i j m k l p=>by rw [Kqu h];exact Jh (Jh (Jh (ha _ _ _ _ _ _) (ha _ _ _ _ _ _)) (ha _ _ _ _ _ _)) (ha _ _ _ _ _ _)⟩
theorem KbW {t:Nat} {f:Nat->Int} {A B:FM} (h0:f t=0) (h : ∀i k,B i k=A i k-f i*A t k):Eqv A B:=by
 have h2 : ∀i k,A i k=B i k-(λi => -f i) i*B t k:=λi k=>by
  rw [h i k,h t k,h0];simp only [Int.zero_mul,Int.sub_zero,Int.neg_mul];omega
 exact ⟨λx=>⟨(X9 h x).1,(X9 h2 x).1⟩,λx=>⟨(X9 h x).2.1,(X9 h2 x).2.1⟩,λx=>⟨(X9 h x).2.2,(X9 h2 x).2.2⟩⟩
theorem Kix {t:Nat} {g:Nat->Int} {A B:FM} (h0:g t=0) (h : ∀i k,B i k=A i k-g k*A i t):Eqv A B :=
 ((Kmv A).trans (KbW (A:=tr A) (B:=tr B) (f:=g) h0 λi k=>h k i)).trans (Kmv B).symm
theorem Kmt {σ τ:Nat->Nat} {A B:FM} (hs : ∀i, σ (σ i)=i) (ht : ∀i, τ (τ i)=i) (h : ∀i k,B i k=A (σ i) (τ k)):Eqv A B:=by
  have h2 : ∀i k,A i k=B (σ i) (τ k):=λi k=>by rw [h,hs,ht]
  have go : ∀{A B:FM},(∀i k,B i k=A (σ i) (τ k)) -> ∀x,(X1 x A->X1 x B)/\(X2 x A->X2 x B)/\(X3 x A->X3 x B):=λh x =>
    ⟨λha i k=>by rw [h];exact ha _ _,λha i j k l=>by have:=ha (σ i) (σ j) (τ k) (τ l);unfold m2 at this ⊢;rw [h,h,h,h];exact this,
     λha i j m k l p=>by have:=ha (σ i) (σ j) (σ m) (τ k) (τ l) (τ p);unfold m3 m2 at this ⊢;simp only [h];exact this⟩
  exact ⟨λx=>⟨(go h x).1,(go h2 x).1⟩,λx=>⟨(go h x).2.1,(go h2 x).2.1⟩,λx=>⟨(go h x).2.2,(go h2 x).2.2⟩⟩
theorem Kol {e:Nat->Int} {A B:FM} (he : ∀i,e i*e i=1) (h : ∀i k,B i k=e i*A i k):Eqv A B:=by
 have h2 : ∀i k,A i k=e i*B i k:=λi k=>by rw [h,<-Int.mul_assoc,he,Int.one_mul]
 have go : ∀{A B:FM},(∀i k,B i k=e i*A i k) -> ∀x,(X1 x A->X1 x B)/\(X2 x A->X2 x B)/\(X3 x A->X3 x B):=λ{A B} h x=>by
  have q2 : ∀i j k l,m2 B i j k l=e i*e j*m2 A i j k l:=λi j k l=>by unfold m2;rw [h,h,h,h];grind
  have q3 : ∀i j m k l p,m3 B i j m k l p=e i*(e j*e m)*m3 A i j m k l p:=λi j m k l p=>by unfold m3;rw [q2,q2,q2,h,h,h];grind
  exact ⟨λha i k=>by rw [h];exact Int.dvd_trans (ha i k) (Int.dvd_mul_left _ _),λha i j k l=>by rw [q2];exact Int.dvd_trans (ha i j k l) (Int.dvd_mul_left _ _),λha i j m k l p=>by rw [q3];exact Int.dvd_trans (ha i j m k l p) (Int.dvd_mul_left _ _)⟩
 exact ⟨λx=>⟨(go h x).1,(go h2 x).1⟩,λx=>⟨(go h x).2.1,(go h2 x).2.1⟩,λx=>⟨(go h x).2.2,(go h2 x).2.2⟩⟩
theorem KnL (a b x:Nat):sx a b (sx a b x)=x:=by
 unfold sx
 repeat' split
 all_goals omega
theorem Kmu {n c t i k:Nat} {s:Dg} (h:ShD n c s) (ht:t<n) (hi:i<n) (htc:t<c) (hk:k<c):Eqv (eM s.a) (eM (Kp t i k s).a) :=
 Kmt (KnL t i) (KnL t k) (Q0 h ht hi htc hk).2.1
theorem KkJ {n c t:Nat} {s:Dg} (h:ShD n c s) (ht:t<n) (htc:t<c):Eqv (eM s.a) (eM (Kw n c t s).a):=by
 obtain ⟨_,h2,_,_⟩:=Ql h ht htc
 have e1:Eqv (eM s.a) (λi k=>if t<i then eM s.a i k-qRw s t i*eM s.a t k else eM s.a i k):=by
  refine KbW (t:=t) (f:=λi=>if t<i then qRw s t i else 0) (if_neg (by omega)) λi k => ?_
  split
  ·rfl
  ·simp
 refine e1.trans (Kix (t:=t) (g:=λk=>if t<k then qC s t k else 0) (if_neg (by omega)) λi k => ?_);rw [h2]
 by_cases hk:t<k
 ·rw [if_pos hk,if_pos hk]
 ·rw [if_neg hk,if_neg hk];simp
theorem Kok {n c t i:Nat} {s:Dg} (h:ShD n c s) (ht:t<n) (hi:i<n) (hne:t≠i):Eqv (eM s.a) (eM (JE t i s).a):=by
 obtain ⟨_,h2,_,_⟩:=XZ h ht hi;refine KbW (t:=i) (f:=λj=>if j=t then -1 else 0) (if_neg (Ne.symm hne)) λj k => ?_
 rw [h2];split
 ·rename_i e;rw [e];omega
 ·simp
theorem Kom {n c t:Nat} {s:Dg} (h:ShD n c s) (ht:t<n):Eqv (eM s.a) (eM (XF t s).a):=by
 obtain ⟨_,h2,_,_⟩:=YY h ht;refine Kol (e:=λj=>if j=t/\eM s.a t t<0 then -1 else 1) (λi=>by split<;>rfl) λj k => ?_
 rw [h2];split
 ·rename_i e;rw [e.1];omega
 ·simp
def Dv (t:Nat) (A:FM):Prop := ∀i,i<t->0<A i i /\ ∀x y,i<=x->i<=y->A i i∣A x y
theorem Koh {n c t i k:Nat} {s:Dg} (h:ZS n c t s) (hd:Dv t (eM s.a)) (hi0:t<=i) (hi:i<n) (hk0:t<=k) (hk:k<c):Dv t (eM (Kp t i k s).a):=by
 obtain ⟨_,h2,_,_⟩:=Q0 h.sh (show t<n by omega) hi (show t<c by omega) hk;obtain ⟨_,hdg⟩:=h.swap hi0 hi hk0 hk;intro j hj;rw [hdg j hj];refine ⟨(hd j hj).1,λx y hx hy => ?_⟩;rw [h2];refine (hd j hj).2 _ _ ?_ ?_
 ·by_cases hxt:x<t
  ·rw [KeA hi0 hxt];exact hx
  ·have:=Kkf hi0 (show t<=x by omega);omega
 ·by_cases hyt:y<t
  ·rw [KeA hk0 hyt];exact hy
  ·have:=Kkf hk0 (show t<=y by omega);omega
theorem Kmo {n c t:Nat} {s:Dg} (h:ZS n c t s) (hd:Dv t (eM s.a)) (ht:t<n) (htc:t<c):Dv t (eM (Kw n c t s).a):=by
 obtain ⟨_,h2,_,_⟩:=Ql h.sh ht htc;obtain ⟨_,hdg⟩:=h.clear ht htc;intro j hj;rw [hdg j hj];refine ⟨(hd j hj).1,λx y hx hy => ?_⟩;have q:=(hd j hj).2
 have r:eM s.a j j∣(if t<x then eM s.a x y-qRw s t x*eM s.a t y else eM s.a x y):=by
  split
  ·exact Jh (q x y hx hy) (q t y (by omega) hy)
  ·exact q x y hx hy
 have r2:eM s.a j j∣(if t<x then eM s.a x t-qRw s t x*eM s.a t t else eM s.a x t):=by
  split
  ·exact Jh (q x t hx (by omega)) (q t t (by omega) (by omega))
  ·exact q x t hx (by omega)
 rw [h2]
 by_cases hy2:t<y
 ·rw [if_pos hy2];exact Jh r r2
 ·rw [if_neg hy2,Int.sub_zero];exact r
theorem KpO {n c t i:Nat} {s:Dg} (h:ZS n c t s) (hd:Dv t (eM s.a)) (ht:t<n) (hi0:t<i) (hi:i<n):Dv t (eM (JE t i s).a):=by
 obtain ⟨_,h2,_,_⟩:=XZ h.sh ht hi;obtain ⟨_,hdg⟩:=h.add ht hi0 hi;intro j hj;rw [hdg j hj];refine ⟨(hd j hj).1,λx y hx hy => ?_⟩;have q:=(hd j hj).2;rw [h2];split
 ·exact Int.dvd_add (q t y (by omega) hy) (q i y (by omega) hy)
 ·exact q x y hx hy
theorem KpP {n c t:Nat} {s:Dg} (h:ZS n c t s) (hd:Dv t (eM s.a)) (ht:t<n) (h1 : ∀x,t<x->eM s.a x t=0) (h2 : ∀y,t<y->eM s.a t y=0) (hne:eM s.a t t≠0) (h3 : ∀x y,t<x->t<y->eM s.a t t∣eM s.a x y):Dv (t+1) (eM (XF t s).a):=by
 obtain ⟨_,k2,_,_⟩:=YY h.sh ht
 have sg : ∀x y d,d∣eM s.a x y->d∣eM (XF t s).a x y:=λx y d hd=>by
  rw [k2];split
  ·rename_i e;rw [e.1] at hd;exact Int.dvd_neg.2 hd
  ·exact hd
 intro j hj
 by_cases e:j=t
 ·subst e
  have hv:eM (XF j s).a j j=if eM s.a j j<0 then -eM s.a j j else eM s.a j j:=by
   rw [k2]
   by_cases hn:eM s.a j j<0
   ·rw [if_pos ⟨rfl,hn⟩,if_pos hn]
   ·rw [if_neg (λh=>hn h.2),if_neg hn]
  have hall : ∀x y,j<=x->j<=y->eM s.a j j∣eM s.a x y:=λx y hx hy=>by
   by_cases hx2:x=j
   ·subst hx2
    by_cases hy2:y=x
    ·subst hy2;exact Int.dvd_refl _
    ·rw [h2 y (by omega)];exact Int.dvd_zero _
   ·by_cases hy2:y=j
    ·subst hy2;rw [h1 x (by omega)];exact Int.dvd_zero _
    ·exact h3 x y (by omega) (by omega)
  constructor
  ·rw [hv];split<;>omega
  ·intro x y hx hy;refine sg x y _ ?_;rw [hv];split
   ·exact Int.neg_dvd.2 (hall x y hx hy)
   ·exact hall x y hx hy
 ·obtain ⟨a,b⟩:=hd j (by omega);have hv:eM (XF t s).a j j=eM s.a j j:=by rw [k2,if_neg (λh=>e h.1)]
  rw [hv];exact ⟨a,λx y hx hy=>sg x y _ (b x y hx hy)⟩
theorem KmL {a p:Int} (h:a.fmod p=0):p∣a:=⟨a.fdiv p,by have:=Yz a p;omega⟩
structure Kkp (n c:Nat) (A:FM) (rank:Nat) (s:Dg):Prop where
 inv:ZS n c rank s
 rn:rank<=n
 rc:rank<=c
 zero : ∀i k,rank<=i->rank<=k->eM s.a i k=0
 dv:Dv rank (eM s.a)
 eqv:Eqv A (eM s.a)
theorem Kby {E n c:Nat} {A:FM} : ∀(f t:Nat) (s:Dg) {rank:Nat} {fin:Dg},Ka0 E n c f t s=some (rank,fin)->ZS n c t s->Dv t (eM s.a)->t<=n->t<=c->Eqv A (eM s.a)->Kkp n c A rank fin/\KcT E fin=true
 | 0,_,_,_,_,h,_,_,_,_,_=>by cases h
 | f+1,t,s,rank,fin,h,hv,hd,htn,htc,he=>by
  rw [Ka0] at h;split at h
  ·rename_i hb
   have hrn:=Ya (t:=t) hv.sh;generalize hst:Xc n c t s=st at hrn h
   rcases hrn with h0 | ⟨i,k,hp,hu⟩ | ⟨i,k,q,y,hp,h1,h2,hj,hj1,hy,hy1,hbad⟩ | ⟨i,k,hp,h1,h2,h3⟩
   ·injection h with h;injection h with h4 h5
    subst h4;subst h5
    refine ⟨⟨hv,htn,htc,λi k hi hk => ?_,hd,he⟩,hb⟩
    by_cases hin:i<n
    ·by_cases hkc:k<c
     ·exact h0 i k hi hin hk hkc
     ·exact YM hv.sh.ra (by omega) _
    ·exact QU (by have:=hv.sh.la;omega) _
   all_goals
    have i0:=hp.i0;have i1:=hp.i1;have k0:=hp.k0;have k1:=hp.k1;have ht:t<n:=by omega
    have htc':t<c:=by omega
    obtain ⟨hv1,_⟩:=hv.swap i0 i1 k0 k1;have he1:=he.trans (Kmu hv.sh ht i1 htc' k1);have hd1:=Koh hv hd i0 i1 k0 k1;have hne:eM (Kp t i k s).a t t≠0:=by rw [hp.piv hv.sh];exact hp.ne
    obtain ⟨hv2,_⟩:=hv1.clear ht htc';have he2:=he1.trans (KkJ hv1.sh ht htc');have hd2:=Kmo hv1 hd1 ht htc'
   ·exact Kby f t _ h hv2 hd2 htn htc he2
   ·obtain ⟨hv3,_⟩:=hv2.add ht hj hj1;exact Kby f t _ h hv3 (KpO hv2 hd2 ht hj hj1) htn htc (he2.trans (Kok hv2.sh ht hj1 (by omega)))
   ·have z1:=KnX hv1.sh ht htc' hne h1;have z2:=KnY hv1.sh ht htc' hne h2;have hcp:=X5 hv1.sh ht htc';obtain ⟨hv3,_⟩:=hv2.posn ht z1 z2;refine Kby f (t+1) _ h hv3 (KpP hv2 hd2 ht z1 z2 (by rw [hcp];exact hne) λx y hx hy => ?_) (by omega) (by omega) (he2.trans (Kom hv2.sh ht))
    by_cases hxn:x<n
    ·by_cases hyc:y<c
     ·exact KmL (h3 x y hx hxn hy hyc)
     ·have h9:=YM hv2.sh.ra (show c<=y by omega) x;rw [h9];exact Int.dvd_zero _
    ·have h9:=QU (A:=(Kw n c t (Kp t i k s)).a) (i:=x) (by have:=hv2.sh.la;omega) y;rw [h9];exact Int.dvd_zero _
  ·cases h
def dl:FM:=λi k=>if i=k then 1 else 0
structure Dia (A:FM) (d:Nat->Int):Prop where
 el : ∀i k,A i k=if i=k then d i else 0
 nn : ∀i,0<=d i
 dv : ∀i j,i<=j->d i∣d j
 far : ∀i,3<=i->d i=0
theorem Dia.m2e {A:FM} {d:Nat->Int} (h:Dia A d) (i j k l:Nat):m2 A i j k l=d i*d j*m2 dl i j k l:=by
 have e : ∀i k,A i k=d i*dl i k:=λi k=>by rw [h.el];unfold dl;split<;>simp
 unfold m2;rw [e,e,e,e];grind
theorem Dia.m3e {A:FM} {d:Nat->Int} (h:Dia A d) (i j m k l p:Nat):m3 A i j m k l p=d i*(d j*d m)*m3 dl i j m k l p:=by
 have e : ∀i k,A i k=d i*dl i k:=λi k=>by rw [h.el];unfold dl;split<;>simp
 unfold m3;rw [h.m2e,h.m2e,h.m2e,e,e,e];grind
theorem Dia.x1 {A:FM} {d:Nat->Int} (h:Dia A d) (x:Int):X1 x A↔x∣d 0:=by
 constructor
 ·intro hx;have:=hx 0 0;rwa [h.el,if_pos rfl] at this
 ·intro hx i k;rw [h.el];split
  ·exact Int.dvd_trans hx (h.dv 0 i (by omega))
  ·exact Int.dvd_zero _
theorem Dia.x2 {A:FM} {d:Nat->Int} (h:Dia A d) (x:Int):X2 x A↔x∣d 0*d 1:=by
 constructor
 ·intro hx;have:=hx 0 1 0 1;rw [h.m2e] at this;simpa [m2,dl] using this
 ·intro hx i j k l;rw [h.m2e]
  by_cases e:i=j
  ·subst e;rw [show m2 dl i i k l=0 by unfold m2;rw [Int.mul_comm (dl i l)];omega,Int.mul_zero];exact Int.dvd_zero _
  ·refine Int.dvd_trans hx (Int.dvd_trans ?_ (Int.dvd_mul_right _ _))
   rcases Nat.lt_or_gt_of_ne e with e | e
   ·exact Int.mul_dvd_mul (h.dv 0 i (by omega)) (h.dv 1 j (by omega))
   ·rw [Int.mul_comm (d i)];exact Int.mul_dvd_mul (h.dv 0 j (by omega)) (h.dv 1 i (by omega))
theorem Kp3 (A:FM) (i m k l p:Nat):m3 A i i m k l p=0:=by unfold m3 m2;grind
theorem Kp5 (A:FM) (i m k l p:Nat):m3 A i m m k l p=0:=by unfold m3 m2;grind
theorem Kp4 (A:FM) (i m k l p:Nat):m3 A i m i k l p=0:=by unfold m3 m2;grind
theorem Dia.x3 {A:FM} {d:Nat->Int} (h:Dia A d) (x:Int):X3 x A↔x∣d 0*(d 1*d 2):=by
 constructor
 ·intro hx;have:=hx 0 1 2 0 1 2;rw [h.m3e] at this;simpa [m3,m2,dl] using this
 ·intro hx i j m k l p;rw [h.m3e]
  by_cases e1:i=j
  ·subst e1;rw [Kp3,Int.mul_zero];exact Int.dvd_zero _
  by_cases e2:j=m
  ·subst e2;rw [Kp5,Int.mul_zero];exact Int.dvd_zero _
  by_cases e3:i=m
  ·subst e3;rw [Kp4,Int.mul_zero];exact Int.dvd_zero _
  by_cases hi:3<=i
  ·rw [h.far i hi,Int.zero_mul,Int.zero_mul];exact Int.dvd_zero _
  by_cases hj:3<=j
  ·rw [h.far j hj,Int.zero_mul,Int.mul_zero,Int.zero_mul];exact Int.dvd_zero _
  by_cases hm:3<=m
  ·rw [h.far m hm,Int.mul_zero,Int.mul_zero,Int.zero_mul];exact Int.dvd_zero _
  refine Int.dvd_trans hx (Int.dvd_trans ?_ (Int.dvd_mul_right _ _))
  have h3:d i*(d j*d m)=d 0*(d 1*d 2):=by
   rcases (show (i=0/\j=1/\m=2)\/(i=0/\j=2/\m=1)\/(i=1/\j=0/\m=2)\/(i=1/\j=2/\m=0)\/(i=2/\j=0/\m=1)\/(i=2/\j=1/\m=0) by omega) with ⟨rfl,rfl,rfl⟩ | ⟨rfl,rfl,rfl⟩ | ⟨rfl,rfl,rfl⟩ | ⟨rfl,rfl,rfl⟩ | ⟨rfl,rfl,rfl⟩ | ⟨rfl,rfl,rfl⟩<;>grind
  rw [h3];exact Int.dvd_refl _
theorem Kkp.dia {n c rank:Nat} {A:FM} {s:Dg} (h:Kkp n c A rank s) (hn:n<=3):Dia (eM s.a) (λi=>eM s.a i i)/\(∀i,i<rank->0<eM s.a i i)/\(∀i,rank<=i->eM s.a i i=0):=by
 have h0 : ∀i,rank<=i->eM s.a i i=0:=λi hi=>h.zero i i hi hi
 refine ⟨⟨λi k => ?_,λi => ?_,λi j hij => ?_,λi hi=>h0 i (by have:=h.rn;omega)⟩,λi hi=>(h.dv i hi).1,h0⟩
 ·split
  ·rename_i e;rw [e]
  ·rename_i e
   by_cases ho:i<rank\/k<rank
   ·exact h.inv.zo i k e ho
   ·exact h.zero i k (by omega) (by omega)
 ·rcases Nat.lt_or_ge i rank with hi | hi
  ·exact Int.le_of_lt (h.dv i hi).1
  ·rw [h0 i hi];exact Int.le_refl _
 ·rcases Nat.lt_or_ge i rank with hi | hi
  ·exact (h.dv i hi).2 j j hij hij
  ·rw [h0 j (by omega)];exact Int.dvd_zero _
end
end Go.Proofs.YtdmaofimeknkbaaGreatDoor
