/- Part 10 of the proof of the claim: contracts of the functions that it reaches, and plain laws; no condition. -/
import Derived.Test.YtdmaofimeknkbaaGreatDoorQ09
set_option maxRecDepth 100000
set_option maxHeartbeats 20000000
namespace Go.Proofs.YtdmaofimeknkbaaGreatDoor
section
open Lib (hid)
def Zu (f:Nat->Int):Nat->Nat
 | 0=>0
 | i+1=>Zu f i+if f i=0 then 0 else 1
def cols (c d:Nat) (ls:List Ln) (t:Nat):Int:=col c (ls.getD (d+t) default)
def swp (ls:List Ln) (i j:Nat):List Ln:=(ls.set i (ls.getD j default)).set j (ls.getD i default)
theorem Jd {f:Nat->Int} {p:Nat} (hz:f p≠0) : ∀{N},p<N->1<=Zu f N
 | 0,h=>by omega
 | N+1,h=>by
  rw [Zu]
  by_cases e:p=N
  ·subst e;rw [if_neg hz];omega
  ·have:=Jd hz (N:=N) (by omega);omega
theorem KjH {f:Nat->Int} {p s:Nat} (hz:f p≠0) (hy:f s≠0) (hne:p≠s) : ∀{N},p<N->s<N->2<=Zu f N
 | 0,h,_=>by omega
 | N+1,h,h'=>by
  rw [Zu]
  by_cases e:p=N
  ·subst e;rw [if_neg hz];have:=Jd hy (N:=p) (by omega);omega
  ·by_cases e2:s=N
   ·subst e2;rw [if_neg hy];have:=Jd hz (N:=s) (by omega);omega
   ·have:=KjH hz hy hne (N:=N) (by omega) (by omega);omega
theorem KjG {f:Nat->Int} {p N:Nat} (hz:f p≠0) (hp:p<N) (h:Zu f N=1) : ∀t,t<N->t≠p->f t=0:=λt ht hne =>
 Classical.byContradiction λhy=>by have:=KjH hz hy (Ne.symm hne) hp ht;omega
theorem KgP {f:Nat->Int} {p:Nat} : ∀{N},(∀s,s<N->s≠p->f s=0)->Zu f N<=1/\(N<=p->Zu f N=0)
 | 0,_=>⟨by simp [Zu],λ_=>rfl⟩
 | N+1,h=>by
  have ih:=KgP (f:=f) (p:=p) (N:=N) (λs hs=>h s (by omega));rw [Zu]
  by_cases e:N=p
  ·subst e;have:=ih.2 (Nat.le_refl _);constructor
   ·split<;>omega
   ·omega
  ·rw [if_pos (h N (by omega) e)];exact ⟨by omega,λh'=>by have:=ih.2 (by omega);omega⟩
theorem Ke8 {f:Nat->Int} {p N:Nat} (h:Zu f N≠1) (hz:f p≠0) (hp:p<N) : ∃s,s<N/\s≠p/\f s≠0:=by
 refine Classical.byContradiction λhc=>h ?_
 have:=(KgP (f:=f) (p:=p) (N:=N) (λs hs hne=>Classical.byContradiction λhy=>hc ⟨s,hs,hne,hy⟩)).1;have:=Jd hz hp;omega
theorem Q4 {α:Type} (l:List α) (i t:Nat) (v d:α) (h:i<l.length):(l.set i v).getD t d=if t=i then v else l.getD t d:=by
 simp only [List.getD_eq_getElem?_getD]
 by_cases e:t=i
 ·subst e;rw [List.getElem?_set_self h,if_pos rfl];rfl
 ·rw [List.getElem?_set_ne (Ne.symm e),if_neg e]
@[simp] theorem Yp (ls:List Ln) (i j:Nat):(swp ls i j).length=ls.length:=by simp [swp]
theorem Kh3 (ls:List Ln) {i j:Nat} (hi:i<ls.length) (hj:j<ls.length) (t:Nat):(swp ls i j).getD t default=if t=j then ls.getD i default else if t=i then ls.getD j default else ls.getD t default:=by
 unfold swp;rw [Q4 _ _ _ _ _ (by simpa using hj),Q4 _ _ _ _ _ hi]
theorem Ka {α:Type} {l:List α} {i:Nat} (h:i<l.length) (d:α):l.getD i d=l[i]:=by simp [List.getD_eq_getElem?_getD,List.getElem?_eq_getElem h]
theorem KbH {d:Nat} (ls:List Ln) {i j:Nat} (hi:i<ls.length) (hj:j<ls.length) (di:d<=i) (dj:d<=j):Z9 d ls (swp ls i j):=by
 have:=Z9.swap ls i j hi hj di dj;unfold swp;rw [Ka hi,Ka hj];exact this
theorem Xz (c d:Nat) {ls:List Ln} {p N:Nat} (hN:ls.length=d+N) (hp:p<N):cols c d (swp ls d (d+p))=swf (cols c d ls) p:=by
 funext t
 unfold cols swf;rw [Kh3 ls (by omega) (by omega)]
 by_cases e:t=p
 ·subst e;simp
 ·rw [if_neg (by omega),if_neg e]
  by_cases e2:t=0
  ·subst e2;simp
  ·rw [if_neg (by omega),if_neg e2]
theorem ZA (c d j:Nat) {ls:List Ln} {i:Nat} (h:i<ls.length):(KM c d j ls).getD i default=if d<i/\i<=d+j then Kec c (ls.getD d default) (ls.getD i default) else ls.getD i default:=by
 rw [Ka (by simpa using h),X8 c d j ls i h,Ka h]
theorem KcJ (c d j:Nat) (ls:List Ln) (h:d+j+1<ls.length) :
  KM c d (j+1) ls=(KM c d j ls).set (d+(j+1)) (lsub ((cols c d (KM c d j ls) (j+1)).fdiv (cols c d (KM c d j ls) 0)) ((KM c d j ls).getD (d+(j+1)) default) ((KM c d j ls).getD (d+0) default)):=by
 rw [Ked c d j ls h];unfold cols;rw [Ka (show d+(j+1)<(KM c d j ls).length by simp;omega),Ka (show d+0<(KM c d j ls).length by simp;omega)];rfl
theorem Dim.getD {n m:Nat} {ls:List Ln} (h:Dim n m ls) {i:Nat} (hi:i<ls.length):(ls.getD i default).1.length=n/\(ls.getD i default).2.length=m:=by rw [Ka hi];exact h.get hi
theorem KdA (c d:Nat) {ls:List Ln} {n m N:Nat} (hN:ls.length=d+N) (hd:Dim n m ls) {t:Nat} (ht:t<N):cols c d (KM c d (N-1) ls) t=rdf (cols c d ls) t:=by
 unfold cols rdf;rw [ZA c d _ (by omega)]
 by_cases e:t=0
 ·subst e;simp
 ·rw [if_neg e,if_pos (by omega)];unfold Kec;rw [Kdy _ _ (by have:=hd.getD (i:=d) (by omega);have:=hd.getD (i:=d+t) (by omega);omega)];rfl
def GG (c d N k:Nat) (ls:List Ln):Prop :=
 (∀t,t<N->All (λz=>z.natAbs<2^k) (ls.getD (d+t) default)) \/
 (SS (cols c d ls) N /\ ∀t,t<N->All (λz=>z.natAbs*prd (cols c d ls) N<=2^(k*(N+2)+1)) (ls.getD (d+t) default))
theorem Krm (k N:Nat):2^(k*(N+2)+1)=2^k*2^k*2^(k*N)*2:=by
 rw [show k*(N+2)+1=k+k+k*N+1 by grind,Nat.pow_succ,Nat.pow_add,Nat.pow_add]
theorem GG.lt {c d N k:Nat} {ls:List Ln} (h:GG c d N k ls) : ∀t,t<N->All (λz=>z.natAbs<2^(k*(N+2)+2)) (ls.getD (d+t) default):=by
 intro t ht;have e:2^(k*(N+2)+2)=2^(k*(N+2)+1)*2:=Nat.pow_succ _ _;have p0:0<2^(k*(N+2)+1):=Nat.pow_pos (by omega)
 rcases h with h | ⟨_,h⟩
 ·refine (h t ht).mono λz hz=>Nat.lt_of_lt_of_le hz ?_
  exact Nat.pow_le_pow_right (by omega) (by have:k*(N+2)=k*N+k*2:=Nat.mul_add _ _ _;omega)
 ·refine (h t ht).mono λz hz => ?_
  have:=Nat.le_mul_of_pos_right z.natAbs (Kj1 (cols c d ls) N);omega
theorem Kke {Q:Int->Prop} {d:Nat} {ls:List Ln} {p N:Nat} (hN:ls.length=d+N) (hp:p<N) (h : ∀t,t<N->All Q (ls.getD (d+t) default)) : ∀t,t<N->All Q ((swp ls d (d+p)).getD (d+t) default):=by
 intro t ht;rw [Kh3 ls (by omega) (by omega)];split
 ·exact h 0 (by omega)
 ·split
  ·exact h p hp
  ·exact h t ht
theorem KbG {c d:Nat} {ls:List Ln} {p N:Nat} (hN:ls.length=d+N) (hp:p<N) (hm : ∀t,t<N->cols c d ls t≠0->(cols c d ls p).natAbs<=(cols c d ls t).natAbs) :
  ∀t,t<N->cols c d (swp ls d (d+p)) t≠0->(cols c d (swp ls d (d+p)) 0).natAbs<=(cols c d (swp ls d (d+p)) t).natAbs:=by
 rw [Xz c d hN hp]
 have e0:swf (cols c d ls) p 0=cols c d ls p:=by
  unfold swf;by_cases e:0=p
  ·subst e;rw [if_pos rfl]
  ·rw [if_neg e,if_pos rfl]
 rw [e0];intro t ht hz;unfold swf at *;split at hz
 ·rw [if_pos ‹_›];exact hm 0 (by omega) hz
 ·rw [if_neg ‹_›];split at hz
  ·rw [if_pos ‹_›];exact Nat.le_refl _
  ·rw [if_neg ‹_›];exact hm t ht hz
theorem KbI {c d:Nat} {ls:List Ln} {p N:Nat} (hN:ls.length=d+N) (hp:p<N):cols c d (swp ls d (d+p)) 0=cols c d ls p:=by
 rw [Xz c d hN hp];unfold swf;by_cases e:0=p
 ·subst e;rw [if_pos rfl]
 ·rw [if_neg e,if_pos rfl]
theorem GG.swp {c d N k p:Nat} {ls:List Ln} (h:GG c d N k ls) (hN:ls.length=d+N) (hp:p<N):GG c d N k (swp ls d (d+p)):=by
 rcases h with h | ⟨hS,h⟩
 ·exact .inl (Kke hN hp h)
 ·right
  rw [Xz c d hN hp,KoT _ hp];refine ⟨?_,Kke hN hp h⟩
  rcases hS with hS | hS
  ·left;intro t ht;unfold swf;split
   ·exact hS 0 (by omega)
   ·split
    ·exact hS p hp
    ·exact hS t ht
  ·right;intro t ht;unfold swf;split
   ·exact hS 0 (by omega)
   ·split
    ·exact hS p hp
    ·exact hS t ht
theorem GG.red {c d N k n m:Nat} {ls:List Ln} (h:GG c d N k ls) (hN:ls.length=d+N) (hd:Dim n m ls) (hz:cols c d ls 0≠0) (hm : ∀t,t<N->cols c d ls t≠0->(cols c d ls 0).natAbs<=(cols c d ls t).natAbs) :
  GG c d N k (KM c d (N-1) ls):=by
 have hc : ∀t,t<N->cols c d (KM c d (N-1) ls) t=rdf (cols c d ls) t:=λt ht=>KdA c d hN hd ht
 have hle:=Ki1 (cols c d ls) hz hm
 right
 rw [Kca hc];constructor
 ·rcases Kqp (cols c d ls) N hz with h | h
  ·exact .inl λt ht=>by rw [hc t ht];exact h t ht
  ·exact .inr λt ht=>by rw [hc t ht];exact h t ht
 intro t ht;rw [ZA c d _ (by omega)];have q0:0<2^k:=Nat.pow_pos (by omega);have q1:0<2^(k*N):=Nat.pow_pos (by omega)
 rcases h with h | ⟨hS,h⟩
 ·have hP:prd (rdf (cols c d ls)) N<=2^(k*N):=Kj2 k λs hs=>Nat.lt_of_le_of_lt (hle s hs) ((h s hs).col (Q:=λz=>z.natAbs<2^k) (by simpa using q0) c)
  have A0:=h 0 (by omega);have At:=h t ht;have ct:=At.col (Q:=λz=>z.natAbs<2^k) (by simpa using q0) c;rw [Krm]
  have key : ∀z:Nat,z<=2^k+2^k*2^k->z*prd (rdf (cols c d ls)) N<=2^k*2^k*2^(k*N)*2:=by
   intro z hz;have h1:2^k<=2^k*2^k:=Nat.le_mul_of_pos_right _ q0;have h2:z<=2^k*2^k*2:=by omega
   calc z*prd (rdf (cols c d ls)) N<=(2^k*2^k*2)*2^(k*N):=Nat.mul_le_mul h2 hP
    _=_:=by grind
  split
  ·have hcd:(ls.getD (d+t) default)=(ls.getD (d+t) default):=rfl;unfold Kec;refine All.lsub _ (Q:=λz=>z.natAbs<2^k) (R:=λz=>z.natAbs<2^k) ?_ ?_ At A0
   ·intro x hx;exact key _ (by have:=Nat.zero_le (2^k*2^k);omega)
   ·intro x y hx hy;refine key _ ?_;have h1:(col c (ls.getD (d+t) default)).fdiv (col c (ls.getD d default))=(cols c d ls t).fdiv (cols c d ls 0):=rfl;rw [h1];have h2:=Zi (cols c d ls t) hz
    have h3:((cols c d ls t).fdiv (cols c d ls 0)*y).natAbs<=2^k*2^k:=by
     rw [Int.natAbs_mul];refine Nat.mul_le_mul ?_ (Nat.le_of_lt hy);have:(cols c d ls t).natAbs<2^k:=ct;omega
    omega
  ·exact At.mono λz hz=>key _ (by have:=Nat.zero_le (2^k*2^k);omega)
 ·have A0:=h 0 (by omega);have At:=h t ht;have hPm:prd (rdf (cols c d ls)) N<=prd (cols c d ls) N:=Kd5 hle;split
  ·rename_i hdt
   have hg:=Knl (cols c d ls) hz hm hS ht (by omega);unfold Kec;refine All.lsub _ (Q:=λz=>z.natAbs*prd (cols c d ls) N<=2^(k*(N+2)+1)) (R:=λz=>z.natAbs*prd (cols c d ls) N<=2^(k*(N+2)+1)) ?_ ?_ At A0
   ·intro x hx;exact Nat.le_trans (Nat.mul_le_mul_left _ hPm) hx
   ·intro x y hx hy;have h1:(col c (ls.getD (d+t) default)).fdiv (col c (ls.getD d default))=(cols c d ls t).fdiv (cols c d ls 0):=rfl;rw [h1];generalize (cols c d ls t).fdiv (cols c d ls 0)=q at *
    have h2:(x-q*y).natAbs<=max x.natAbs y.natAbs*(q.natAbs+1):=by
     have e1:(q*y).natAbs<=q.natAbs*max x.natAbs y.natAbs:=by rw [Int.natAbs_mul];exact Nat.mul_le_mul_left _ (by omega)
     have e2:max x.natAbs y.natAbs*(q.natAbs+1)=q.natAbs*max x.natAbs y.natAbs+max x.natAbs y.natAbs:=by grind
     omega
    calc (x-q*y).natAbs*prd (rdf (cols c d ls)) N<=max x.natAbs y.natAbs*(q.natAbs+1)*prd (rdf (cols c d ls)) N:=Nat.mul_le_mul_right _ h2
     _=max x.natAbs y.natAbs*(prd (rdf (cols c d ls)) N*(q.natAbs+1)):=by grind
     _<=max x.natAbs y.natAbs*prd (cols c d ls) N:=Nat.mul_le_mul_left _ hg
     _<=_:=by
      rcases Nat.le_total x.natAbs y.natAbs with hxy | hxy
      ·rw [Nat.max_eq_right hxy];exact hy
      ·rw [Nat.max_eq_left hxy];exact hx
  ·exact At.mono λz hz=>Nat.le_trans (Nat.mul_le_mul_left _ hPm) hz
structure SwR (c d N k:Nat) (ls ls':List Ln) (r:Bool):Prop where
 ops:Ops d ls ls'
 small : ∀t,t<N->All (λz=>z.natAbs<2^(k*(N+2)+2)) (ls'.getD (d+t) default)
 no:r=false -> ∀t,t<N->cols c d ls' t=0
 yes:r=true->0<N/\cols c d ls' 0≠0 /\ ∀t,0<t->t<N->cols c d ls' t=0
theorem KnK {c d N k:Nat} {ls ls1:List Ln} (ho:Ops d ls ls1) (hG:GG c d N k ls1) (h : ∀t,t<N->cols c d ls1 t=0):SwR c d N k ls ls1 false :=
 ⟨ho,hG.lt,λ_=>h,λh=>by cases h⟩
theorem Ko2 {c d N k p:Nat} {ls ls1:List Ln} (ho:Ops d ls ls1) (hN:ls1.length=d+N) (hG:GG c d N k ls1) (hp:p<N) (hz:cols c d ls1 p≠0) (hcnt:Zu (cols c d ls1) N=1):SwR c d N k ls (swp ls1 d (d+p)) true:=by
 refine ⟨.step ho (KbH ls1 (by omega) (by omega) (by omega) (by omega)),(hG.swp hN hp).lt,(λh=>by cases h),λ_=>⟨by omega,by rw [KbI hN hp];exact hz,λt h0 ht => ?_⟩⟩;rw [Xz c d hN hp];have h1:=KjG hz hp hcnt;unfold swf;split
 ·rename_i e;subst e;exact h1 0 (by omega) (by omega)
 ·rw [if_neg (by omega)];exact h1 t ht ‹_›
theorem Kkd {c d N n m p:Nat} {ls:List Ln} (hN:ls.length=d+N) (hd:Dim n m ls) (hp:p<N) (hz:cols c d ls p≠0) (hm : ∀t,t<N->cols c d ls t≠0->(cols c d ls p).natAbs<=(cols c d ls t).natAbs) (hcnt:Zu (cols c d ls) N≠1) :
  sm (cols c d (KM c d (N-1) (swp ls d (d+p)))) N<sm (cols c d ls) N:=by
 have hd2:Dim n m (swp ls d (d+p)):=hd.step (KbH (d:=d) ls (by omega) (by omega) (by omega) (by omega));have hN2:(swp ls d (d+p)).length=d+N:=by simpa using hN
 rw [Ken (λt ht=>KdA c d hN2 hd2 ht),<-Kqv (cols c d ls) hp,<-Xz c d hN hp];obtain ⟨s,hs,hsp,hsz⟩:=Ke8 hcnt hz hp;have h0:cols c d (swp ls d (d+p)) 0≠0:=by rw [KbI hN hp];exact hz
 by_cases e:s=0
 ·subst e;refine Knm _ h0 (KbG hN hp hm) hp (by omega) ?_;rw [Xz c d hN hp];unfold swf;rw [if_pos rfl];exact hsz
 ·refine Knm _ h0 (KbG hN hp hm) hs e ?_;rw [Xz c d hN hp];unfold swf;rw [if_neg hsp,if_neg e];exact hsz
def en (ls:List Ln) (i j:Nat):Int:=col j (ls.getD i default)
theorem KdH (ls:List Ln) {i:Nat} (hi:i<ls.length) (l:Ln) (t j:Nat):en (ls.set i l) t j=if t=i then col j l else en ls t j:=by
 unfold en;rw [Q4 _ _ _ _ _ hi];split<;>rfl
theorem Z9.zero {d n m j:Nat} {a b:List Ln} (h:Z9 d a b) (hd:Dim n m a) (hz : ∀i,d<=i->i<a.length->en a i j=0) : ∀i,d<=i->i<b.length->en b i j=0:=by
 intro i hi hl;rw [h.length] at hl
 cases h with
 | swap p q hp hq dp dq =>
  rw [KdH _ (by simpa using hq),KdH _ hp];have e1:=hz p dp hp;have e2:=hz q dq hq;unfold en at e1 e2;rw [Ka hp] at e1;rw [Ka hq] at e2;split
  ·exact e1
  ·split
   ·exact e2
   ·exact hz i hi hl
 | sub p q k hp hq hpq dp dq =>
  rw [KdH _ hp];split
  ·have e1:=hz p dp hp;have e2:=hz q dq hq;unfold en at e1 e2;rw [Ka hp] at e1;rw [Ka hq] at e2;rw [Kdy _ _ (by rw [(hd.get hp).1,(hd.get hq).1];exact Nat.le_refl _),e1,e2];simp
  ·exact hz i hi hl
 | neg p hp dp =>
  rw [KdH _ hp];split
  ·have e1:=hz p dp hp;unfold en at e1;rw [Ka hp] at e1;rw [Kdx,e1];rfl
  ·exact hz i hi hl
theorem Ops.zero {d n m j:Nat} {a b:List Ln} (h:Ops d a b) (hd:Dim n m a) (hz : ∀i,d<=i->i<a.length->en a i j=0) : ∀i,d<=i->i<b.length->en b i j=0:=by
 induction h with
 | refl=>exact hz
 | step o s ih=>exact s.zero (hd.ops o) ih
theorem Ops.en_ahead {d:Nat} {a b:List Ln} (h:Ops d a b) {i:Nat} (hi:i<d) (j:Nat):en b i j=en a i j:=by
 unfold en;rw [List.getD_eq_getElem?_getD,List.getD_eq_getElem?_getD,h.ahead hi]
structure QF (c d:Nat) (ps:List Nat) (ls:List Ln):Prop where
 len:ps.length=d
 le:d<=ls.length
 lt : ∀i,i<d->ps.getD i 0<c
 inc : ∀i k,i<k->k<d->ps.getD i 0<ps.getD k 0
 left : ∀i,i<d -> ∀j,j<ps.getD i 0->en ls i j=0
 pos : ∀i,i<d->0<en ls i (ps.getD i 0)
 red : ∀i k,i<k->k<d->0<=en ls i (ps.getD k 0)/\en ls i (ps.getD k 0)<en ls k (ps.getD k 0)
 below : ∀i,d<=i->i<ls.length -> ∀j,j<c->en ls i j=0
theorem QF.start (ls:List Ln):QF 0 0 [] ls :=
 ⟨rfl,Nat.zero_le _,λi h=>by omega,λi k _ h=>by omega,λi h=>by omega,λi h=>by omega,λi k _ h=>by omega,λi _ _ j h=>by omega⟩
theorem QF.skip {c d N k n m:Nat} {ps:List Nat} {ls ls':List Ln} (h:QF c d ps ls) (hd:Dim n m ls) (hN:ls.length=d+N) (hs:SwR c d N k ls ls' false):QF (c+1) d ps ls':=by
 have hl:=hs.ops.length;refine ⟨h.len,by omega,λi hi=>by have:=h.lt i hi;omega,h.inc,λi hi j hj => ?_,λi hi => ?_,λi k hik hk => ?_,λi hi hi2 j hj => ?_⟩
 ·rw [hs.ops.en_ahead hi];exact h.left i hi j hj
 ·rw [hs.ops.en_ahead hi];exact h.pos i hi
 ·rw [hs.ops.en_ahead (by omega),hs.ops.en_ahead (by omega)];exact h.red i k hik hk
 ·by_cases e:j=c
  ·subst e;have:=hs.no rfl (i-d) (by omega);unfold cols at this;rw [show d+(i-d)=i by omega] at this;exact this
  ·exact hs.ops.zero hd (λi h1 h2=>h.below i h1 h2 j (by omega)) i hi hi2
def QB (c d j:Nat) (ls:List Ln):List Ln:=ls.mapIdx λi l=>if i<j then Kec c (ls.getD d default) l else l
@[simp] theorem Kn4 (c d j:Nat) (ls:List Ln):(QB c d j ls).length=ls.length:=by simp [QB]
theorem Kai (c d j:Nat) (ls:List Ln) (i:Nat) (h:i<ls.length):(QB c d j ls)[i]'(by simpa using h)=if i<j then Kec c (ls.getD d default) ls[i] else ls[i]:=by
 simp [QB]
theorem KaQ (c d:Nat) (ls:List Ln):QB c d 0 ls=ls:=by
 refine List.ext_getElem (by simp) λi h1 h2 => ?_
 rw [Kai _ _ _ _ _ h2,if_neg (by omega)]
theorem Zt (c d j:Nat) {ls:List Ln} {i:Nat} (h:i<ls.length):(QB c d j ls).getD i default=if i<j then Kec c (ls.getD d default) (ls.getD i default) else ls.getD i default:=by
 rw [Ka (by simpa using h),Kai c d j ls i h,Ka h]
theorem KaP (c d j:Nat) (ls:List Ln) (h:j<d) (hd:d<ls.length) :
  QB c d (j+1) ls=(QB c d j ls).set j (lsub ((col c ((QB c d j ls).getD j default)).fdiv (col c ((QB c d j ls).getD d default))) ((QB c d j ls).getD j default) ((QB c d j ls).getD d default)):=by
 rw [Zt c d j (by omega),Zt c d j (by omega),if_neg (by omega),if_neg (by omega)];refine List.ext_getElem (by simp) λi h1 h2 => ?_
 have hi:i<ls.length:=by simpa using h1
 rw [Kai _ _ _ _ _ hi]
 by_cases hij:i=j
 ·subst hij;rw [List.getElem_set_self,if_pos (by omega),Ka (by omega:i<ls.length)];rfl
 ·rw [List.getElem_set_ne (Ne.symm hij),Kai _ _ _ _ _ hi]
  by_cases hb:i<j
  ·rw [if_pos hb,if_pos (by omega)]
  ·rw [if_neg hb,if_neg (by omega)]
theorem KbR (c d:Nat) (ls:List Ln) (hd:d<ls.length) : ∀j,j<=d->Ops 0 ls (QB c d j ls)
 | 0,_=>by rw [KaQ];exact .refl _
 | j+1,h=>by
  rw [KaP c d j ls (by omega) hd,Ka (by simp;omega),Ka (by simp;omega)];exact .step (KbR c d ls hd j (by omega)) (.sub _ j d _ (by simp;omega) (by simp;omega) (by omega) (by omega) (by omega))
theorem Kf8 {c d n m:Nat} {ls:List Ln} (hd:Dim n m ls) (hdl:d<ls.length) (j i:Nat):en (QB c d d ls) i j=if i<d then en ls i j-(en ls i c).fdiv (en ls d c)*en ls d j else en ls i j:=by
 unfold en
 rcases Nat.lt_or_ge i ls.length with hi | hi
 ·rw [Zt c d d hi];split
  ·unfold Kec;rw [Kdy _ _ (by rw [(hd.getD hi).1,(hd.getD hdl).1];exact Nat.le_refl _)]
  ·rfl
 ·rw [if_neg (by omega)];simp only [List.getD_eq_getElem?_getD];rw [List.getElem?_eq_none (by simpa using hi),List.getElem?_eq_none hi]
def Zc (c d:Nat) (ls:List Ln):List Ln:=if en ls d c<0 then ls.set d (lneg (ls.getD d default)) else ls
@[simp] theorem ZE (c d:Nat) (ls:List Ln):(Zc c d ls).length=ls.length:=by unfold Zc;split<;>simp
theorem Kb9 (c d:Nat) (ls:List Ln) (hd:d<ls.length):Ops d ls (Zc c d ls):=by
 unfold Zc;split
 ·rw [Ka hd];exact .one (.neg ls d hd (Nat.le_refl _))
 ·exact .refl _
theorem XD {c d:Nat} {ls:List Ln} (hd:d<ls.length) (i j:Nat):en (Zc c d ls) i j=if i=d/\en ls d c<0 then -en ls d j else en ls i j:=by
 unfold Zc
 by_cases h:en ls d c<0
 ·rw [if_pos h,KdH _ hd]
  by_cases e:i=d
  ·rw [if_pos e,if_pos ⟨e,h⟩,Kdx];rfl
  ·rw [if_neg e,if_neg (by omega)]
 ·rw [if_neg h,if_neg (by omega)]
theorem QF.next {c d N k n m:Nat} {ps:List Nat} {ls ls':List Ln} (h:QF c d ps ls) (hd:Dim n m ls) (hN:ls.length=d+N) (hs:SwR c d N k ls ls' true) :
  QF (c+1) (d+1) (ps++[c]) (QB c d d (Zc c d ls')):=by
 obtain ⟨hN0,hz,hzb⟩:=hs.yes rfl;have hl:=hs.ops.length;have hdl:d<ls'.length:=by omega
 have hd':=hd.ops hs.ops;have hd2:=hd'.ops (Kb9 c d ls' hdl);have hz':en ls' d c≠0:=hz;have hbz : ∀j,j<c -> ∀i,d<=i->i<ls'.length->en ls' i j=0:=λj hj=>hs.ops.zero hd (λi h1 h2=>h.below i h1 h2 j hj)
 -- line d of the new lines
 have hdc:0<en (Zc c d ls') d c:=by rw [XD hdl];split<;>omega
 have hdz : ∀j,j<c->en (Zc c d ls') d j=0:=λj hj=>by
  have:=hbz j hj d (Nat.le_refl _) hdl;rw [XD hdl,this];split<;>rfl
 have hab : ∀i j,i<d->j<c->en (QB c d d (Zc c d ls')) i j=en ls i j:=λi j hi hj=>by
  rw [Kf8 hd2 (by simpa using hdl),if_pos hi,hdz j hj,XD hdl,if_neg (by omega),hs.ops.en_ahead hi];simp
 have hdd : ∀j,en (QB c d d (Zc c d ls')) d j=en (Zc c d ls') d j:=λj=>by rw [Kf8 hd2 (by simpa using hdl),if_neg (by omega)]
 have hps : ∀i,i<d->(ps++[c]).getD i 0=ps.getD i 0:=λi hi=>by
  simp only [List.getD_eq_getElem?_getD];rw [List.getElem?_append_left (by rw [h.len];exact hi)]
 have hpd:(ps++[c]).getD d 0=c:=by
  simp only [List.getD_eq_getElem?_getD];rw [List.getElem?_append_right (by rw [h.len];exact Nat.le_refl _),h.len];simp
 have hcase : ∀i,i<d+1->i<d\/i=d:=λi hi=>by omega
 refine ⟨by simp [h.len],by simp;omega,λi hi => ?_,λi k hik hk => ?_,λi hi j hj => ?_,λi hi => ?_,λi k hik hk => ?_,λi hi hi2 j hj => ?_⟩
 ·rcases hcase i hi with hi | rfl
  ·rw [hps i hi];have:=h.lt i hi;omega
  ·rw [hpd];omega
 ·rw [hps i (by omega)]
  rcases hcase k hk with hk | rfl
  ·rw [hps k hk];exact h.inc i k hik hk
  ·rw [hpd];exact h.lt i hik
 ·rcases hcase i hi with hi | rfl
  ·rw [hps i hi] at hj;have:=h.lt i hi;rw [hab i j hi (by omega)];exact h.left i hi j hj
  ·rw [hpd] at hj;rw [hdd];exact hdz j hj
 ·rcases hcase i hi with hi | rfl
  ·rw [hps i hi,hab i _ hi (h.lt i hi)];exact h.pos i hi
  ·rw [hpd,hdd];exact hdc
 ·rcases hcase k hk with hk | rfl
  ·rw [hps k hk,hab i _ (by omega) (h.lt k hk),hab k _ hk (h.lt k hk)];exact h.red i k hik hk
  ·rw [hpd,hdd,Kf8 hd2 (by simpa using hdl),if_pos hik];exact Kas hdc
 ·have hi3:i<ls'.length:=by simpa using hi2
  rw [Kf8 hd2 (by simpa using hdl),if_neg (by omega),XD hdl,if_neg (by omega)]
  by_cases e:j=c
  ·subst e;have:=hzb (i-d) (by omega) (by omega);unfold cols at this;rw [show d+(i-d)=i by omega] at this;exact this
  ·exact hbz j (by omega) i (by omega) hi3
def bC (L k:Nat):Nat->Nat
 | 0=>k
 | c+1=>2*(bC L k c*(L+2)+2)+1
theorem KqJ (L k c:Nat):bC L k c*(L+2)+2<=bC L k (c+1)/\bC L k c<=bC L k (c+1):=by
 rw [bC];have:bC L k c*(L+2)=bC L k c*L+bC L k c*2:=Nat.mul_add _ _ _;omega
theorem Kaj (L k c:Nat) : ∀e,bC L k c<=bC L k (c+e)
 | 0=>Nat.le_refl _
 | e+1=>Nat.le_trans (Kaj L k c e) (KqJ L k (c+e)).2
def Yr (E:Nat) (ls:List Ln):Prop := ∀i,i<ls.length->All (λz=>z.natAbs<2^E) (ls.getD i default)
theorem Yr.mono {E F:Nat} {ls:List Ln} (h:Yr E ls) (hf:E<=F):Yr F ls:=λi hi=>(h i hi).mono λz hz=>Nat.lt_of_lt_of_le hz (Nat.pow_le_pow_right (by omega) hf)
theorem SwR.all {c d N k:Nat} {ls ls':List Ln} {r:Bool} (h:SwR c d N k ls ls' r) (hN:ls.length=d+N) (ha:Yr k ls):Yr (k*(N+2)+2) ls':=by
 intro i hi;rw [h.ops.length] at hi
 rcases Nat.lt_or_ge i d with hid | hid
 ·have e:ls'.getD i default=ls.getD i default:=by simp only [List.getD_eq_getElem?_getD];rw [h.ops.ahead hid]
  rw [e];refine (ha i (by omega)).mono λz hz=>Nat.lt_of_lt_of_le hz (Nat.pow_le_pow_right (by omega) ?_)
  have:k*(N+2)=k*N+k*2:=Nat.mul_add _ _ _;omega
 ·have:=h.small (i-d) (by omega);rwa [show d+(i-d)=i by omega] at this
theorem Yr.pos {E c d:Nat} {ls:List Ln} (h:Yr E ls) (hd:d<ls.length):Yr E (Zc c d ls):=by
 unfold Zc;split
 ·intro i hi;rw [Q4 _ _ _ _ _ hd];split
  ·exact All.lneg (λz hz=>by rw [Int.natAbs_neg];exact hz) (h d hd)
  ·exact h i (by simpa using hi)
 ·exact h
theorem Yr.abv {E c d j:Nat} {ls:List Ln} (h:Yr E ls) (hd:d<ls.length) (hz:en ls d c≠0):Yr (2*E+1) (QB c d j ls):=by
 intro i hi;have hi':i<ls.length:=by simpa using hi
 rw [Zt c d j hi'];have q0:0<2^E:=Nat.pow_pos (by omega);have e:2^(2*E+1)=2^E*2^E*2:=by rw [Nat.pow_succ,Nat.two_mul,Nat.pow_add]
 have h1:2^E<=2^E*2^E:=Nat.le_mul_of_pos_right _ q0;split
 ·unfold Kec;refine All.lsub _ (Q:=λz=>z.natAbs<2^E) (R:=λz=>z.natAbs<2^E) ?_ ?_ (h i hi') (h d hd)
  ·intro x hx;have:x.natAbs<2^E:=hx;omega
  ·intro x y hx hy;have hx':x.natAbs<2^E:=hx;have h2:=Zi (en ls i c) hz;have h3:=(h i hi').col (Q:=λz=>z.natAbs<2^E) (by simpa using q0) c
   have h4:((en ls i c).fdiv (en ls d c)*y).natAbs<=2^E*2^E:=by
    rw [Int.natAbs_mul];refine Nat.mul_le_mul ?_ (Nat.le_of_lt hy);have:(en ls i c).natAbs<2^E:=h3;omega
   show (x-(en ls i c).fdiv (en ls d c)*y).natAbs<_;omega
 ·exact (h i hi').mono λz hz=>by have:z.natAbs<2^E:=hz;omega
theorem Kjx {L N k c:Nat} (hN:N<=L):2*(bC L k c*(N+2)+2)+1<=bC L k (c+1):=by
 rw [bC];have:bC L k c*(N+2)<=bC L k c*(L+2):=Nat.mul_le_mul_left _ (by omega);omega
end
section
open Hnf (V Ko Ech Red)
open Lib (hid)
def vr (r:List Int):V:=λj=>r.getD j 0
def KaG (ls:List Ln):List V:=ls.map λl=>vr l.1
theorem ZD {ls:List Ln} {i:Nat} (h:i<ls.length):vr ls[i].1∈KaG ls:=List.mem_map.2 ⟨ls[i],List.getElem_mem h,rfl⟩
theorem Kjk (k:Int) {a b:List Int} (h:b.length<=a.length):vr (QR k a b)=Hnf.sub (vr a) k (vr b):=by
 funext j;exact Z7 k a b j h
theorem Kjj (a:List Int):vr (a.map λz => -z)=Hnf.sub (λ_=>0) 1 (vr a):=by
 funext j;have:=Kdx j (a,[]);simp only [col,lneg] at this;simp only [vr,Hnf.sub];omega
theorem Kdb {ls:List Ln} {i:Nat} {l:Ln} {v:V} (h:v∈KaG (ls.set i l)):v=vr l.1\/v∈KaG ls:=by
 obtain ⟨x,hx,rfl⟩:=List.mem_map.1 h
 rcases List.mem_or_eq_of_mem_set hx with hx | rfl
 ·exact .inr (List.mem_map.2 ⟨x,hx,rfl⟩)
 ·exact .inl rfl
theorem Z9.lat {d n m:Nat} {a b:List Ln} (h:Z9 d a b) (hd:Dim n m a):(∀v∈KaG b,Ko (KaG a) v)/\(∀v∈KaG a,Ko (KaG b) v):=by
 cases h with
 | swap p q hp hq dp dq =>
  constructor
  ·intro v hv
   rcases Kdb hv with rfl | hv
   ·exact .mem (ZD hp)
   ·rcases Kdb hv with rfl | hv
    ·exact .mem (ZD hq)
    ·exact .mem hv
  ·intro v hv;obtain ⟨l,hl,rfl⟩:=List.mem_map.1 hv;obtain ⟨i,hi,rfl⟩:=List.getElem_of_mem hl
   by_cases e:i=p
   ·subst e;have h1:q<((a.set i a[q]).set q a[i]).length:=by simpa using hq
    have:=ZD h1;rw [List.getElem_set_self] at this;exact .mem this
   ·by_cases e2:i=q
    ·subst e2;have h1:p<((a.set p a[i]).set i a[p]).length:=by simpa using hp
     have:=ZD h1;rw [List.getElem_set_ne (by omega),List.getElem_set_self] at this;exact .mem this
    ·have h1:i<((a.set p a[q]).set q a[p]).length:=by simpa using hi
     have:=ZD h1;rw [List.getElem_set_ne (by omega),List.getElem_set_ne (by omega)] at this;exact .mem this
 | sub p q k hp hq hpq dp dq =>
  have hlen:a[q].1.length<=a[p].1.length:=by rw [(hd.get hp).1,(hd.get hq).1];exact Nat.le_refl _
  constructor
  ·intro v hv
   rcases Kdb hv with rfl | hv
   ·show Ko _ (vr (QR k a[p].1 a[q].1));rw [Kjk k hlen];exact .step k (.mem (ZD hp)) (ZD hq)
   ·exact .mem hv
  ·intro v hv;obtain ⟨l,hl,rfl⟩:=List.mem_map.1 hv;obtain ⟨i,hi,rfl⟩:=List.getElem_of_mem hl
   have hq':vr a[q].1∈KaG (a.set p (lsub k a[p] a[q])):=by
    have h1:q<(a.set p (lsub k a[p] a[q])).length:=by simpa using hq
    have:=ZD h1;rwa [List.getElem_set_ne hpq] at this
   by_cases e:i=p
   ·subst e;have h1:i<(a.set i (lsub k a[i] a[q])).length:=by simpa using hi
    have:=ZD h1;rw [List.getElem_set_self] at this;have h2:=Ko.step (-k) (.mem this) hq'
    have e:Hnf.sub (vr (lsub k a[i] a[q]).1) (-k) (vr a[q].1)=vr a[i].1:=by
     show Hnf.sub (vr (QR k a[i].1 a[q].1)) (-k) (vr a[q].1)=vr a[i].1;rw [Kjk k hlen];funext j;simp only [Hnf.sub,Int.neg_mul];omega
    rwa [e] at h2
   ·have h1:i<(a.set p (lsub k a[p] a[q])).length:=by simpa using hi
    have:=ZD h1;rw [List.getElem_set_ne (Ne.symm e)] at this;exact .mem this
 | neg p hp dp =>
  constructor
  ·intro v hv
   rcases Kdb hv with rfl | hv
   ·show Ko _ (vr (a[p].1.map λz => -z));rw [Kjj];exact .step 1 .zero (ZD hp)
   ·exact .mem hv
  ·intro v hv;obtain ⟨l,hl,rfl⟩:=List.mem_map.1 hv;obtain ⟨i,hi,rfl⟩:=List.getElem_of_mem hl
   by_cases e:i=p
   ·subst e;have h1:i<(a.set i (lneg a[i])).length:=by simpa using hi
    have:=ZD h1;rw [List.getElem_set_self] at this;have h2:=Ko.step 1 .zero this
    have e:Hnf.sub (λ_=>0) 1 (vr (lneg a[i]).1)=vr a[i].1:=by
     show Hnf.sub (λ_=>0) 1 (vr (a[i].1.map λz => -z))=vr a[i].1;rw [Kjj];funext j;simp only [Hnf.sub];omega
    rwa [e] at h2
   ·have h1:i<(a.set p (lneg a[p])).length:=by simpa using hi
    have:=ZD h1;rw [List.getElem_set_ne (Ne.symm e)] at this;exact .mem this
theorem Ops.lat {d n m:Nat} {a b:List Ln} (h:Ops d a b) (hd:Dim n m a):(∀v∈KaG b,Ko (KaG a) v)/\(∀v∈KaG a,Ko (KaG b) v):=by
 induction h with
 | refl=>exact ⟨λv hv => .mem hv,λv hv => .mem hv⟩
 | step o s ih =>
  have hs:=s.lat (hd.ops o);exact ⟨λv hv=>(hs.1 v hv).trans ih.1,λv hv=>(ih.2 v hv).trans hs.2⟩
abbrev Mx:=List (List Int)
def KF (M:Mx):List V:=M.map vr
def Ku (n:Nat) (M:Mx):Prop := ∀r∈M,r.length=n
def eM (F:Mx) (i j:Nat):Int:=(F.getD i []).getD j 0
structure IsH (n:Nat) (ps:List Nat) (F:Mx):Prop where
 rect:Ku n F
 len:ps.length=F.length
 lt : ∀i,i<F.length->ps.getD i 0<n
 inc : ∀i k,i<k->k<F.length->ps.getD i 0<ps.getD k 0
 left : ∀i,i<F.length -> ∀j,j<ps.getD i 0->eM F i j=0
 pos : ∀i,i<F.length->0<eM F i (ps.getD i 0)
 red : ∀i k,i<k->k<F.length->0<=eM F i (ps.getD k 0)/\eM F i (ps.getD k 0)<eM F k (ps.getD k 0)
def wps (ps:List Nat) (F:Mx):List (Nat×V):=(ps.zip F).map λx=>(x.1,vr x.2)
theorem Zl {ps:List Nat} {F:Mx} (h:ps.length=F.length):Hnf.rows (wps ps F)=KF F:=by
 unfold Hnf.rows wps KF;rw [List.map_map];show List.map (λx=>vr x.2) (ps.zip F)=_;rw [show (λx:Nat×List Int=>vr x.2)=vr∘Prod.snd from rfl,<-List.map_map,List.map_snd_zip (by omega)]
theorem KjN : ∀(ps:List Nat) (F:Mx) (b:Nat),ps.length=F.length->(∀i,i<F.length->b<=ps.getD i 0)->(∀i k,i<k->k<F.length->ps.getD i 0<ps.getD k 0) ->
  (∀i,i<F.length -> ∀j,j<ps.getD i 0->eM F i j=0)->(∀i,i<F.length->0<eM F i (ps.getD i 0))->Ech b (wps ps F)
 | [],[],_,_,_,_,_,_=>trivial
 | [],_::_,_,h,_,_,_,_=>by simp at h
 | _::_,[],_,h,_,_,_,_=>by simp at h
 | p::ps,f::F,b,hl,hb,hi,hz,hp=>by
  refine ⟨hb 0 (by simp),hz 0 (by simp),hp 0 (by simp),?_⟩;refine KjN ps F (p+1) (by simpa using hl) (λi h => ?_) (λi k hik hk => ?_) (λi h => ?_) (λi h => ?_)
  ·exact hi 0 (i+1) (by omega) (by simpa using h)
  ·exact hi (i+1) (k+1) (by omega) (by simpa using hk)
  ·exact hz (i+1) (by simpa using h)
  ·exact hp (i+1) (by simpa using h)
theorem Kj8 : ∀(ps:List Nat) (F:Mx),ps.length=F.length->(∀i k,i<k->k<F.length->0<=eM F i (ps.getD k 0)/\eM F i (ps.getD k 0)<eM F k (ps.getD k 0))->Red (wps ps F)
 | [],[],_,_=>trivial
 | [],_::_,h,_=>by simp at h
 | _::_,[],h,_=>by simp at h
 | p::ps,f::F,hl,hr=>by
  refine ⟨λg hg => ?_,Kj8 ps F (by simpa using hl) λi k hik hk=>hr (i+1) (k+1) (by omega) (by simpa using hk)⟩;obtain ⟨x,hx,rfl⟩:=List.mem_map.1 hg;obtain ⟨i,hi,hxe⟩:=List.getElem_of_mem hx;have hi':i<ps.length/\i<F.length:=by simp at hi;omega
  have:=hr 0 (i+1) (by omega) (by simpa using hi'.2);obtain rfl:x=(ps[i]'hi'.1,F[i]'hi'.2):=by rw [<-hxe];exact List.getElem_zip
  simp only [eM,List.getD_cons_succ,List.getD_cons_zero] at this;rw [Ka hi'.1,Ka hi'.2] at this;exact this
theorem IsH.ech {n:Nat} {ps:List Nat} {F:Mx} (h:IsH n ps F):Ech 0 (wps ps F):=KjN ps F 0 h.len (λ_ _=>Nat.zero_le _) h.inc h.left h.pos
theorem IsH.redu {n:Nat} {ps:List Nat} {F:Mx} (h:IsH n ps F):Red (wps ps F):=Kj8 ps F h.len h.red
theorem KqE {n:Nat} {a b:List Int} (ha:a.length=n) (hb:b.length=n) (h:vr a=vr b):a=b:=by
 refine List.ext_getElem (by omega) λi h1 h2 => ?_
 have:=congrFun h i;simpa only [vr,List.getD_eq_getElem?_getD,List.getElem?_eq_getElem h1,List.getElem?_eq_getElem h2,Option.getD_some] using this
theorem IsH.unique {n:Nat} {ps qs:List Nat} {F G:Mx} (hF:IsH n ps F) (hG:IsH n qs G) (h1 : ∀v∈KF F,Ko (KF G) v) (h2 : ∀v∈KF G,Ko (KF F) v):F=G/\ps=qs:=by
 have e:=Hnf.unique hF.ech hF.redu hG.ech hG.redu (by rw [Zl hF.len,Zl hG.len];exact h1) (by rw [Zl hF.len,Zl hG.len];exact h2)
 have e1:ps=qs:=by
  have:=congrArg (List.map Prod.fst) e;unfold wps at this;rw [List.map_map,List.map_map] at this;rw [show (Prod.fst∘λx:Nat×List Int=>(x.1,vr x.2))=Prod.fst from rfl,List.map_fst_zip (by have:=hF.len;omega),List.map_fst_zip (by have:=hG.len;omega)] at this;exact this
 have e2:KF F=KF G:=by rw [<-Zl hF.len,<-Zl hG.len,e]
 refine ⟨?_,e1⟩;have hl:F.length=G.length:=by have:=congrArg List.length e2;simpa [KF] using this
 refine List.ext_getElem hl λi h3 h4 => ?_
 refine KqE (hF.rect _ (List.getElem_mem h3)) (hG.rect _ (List.getElem_mem h4)) ?_;have:=congrArg (λl=>l[i]?) e2;simpa [KF,h3,h4] using this
def Za (d:Nat) (ls:List Ln):Mx:=(ls.take d).map (·.1)
theorem Kbf {d:Nat} {ls:List Ln} {i:Nat} (h:i<d) (j:Nat) (hd:d<=ls.length):eM (Za d ls) i j=en ls i j:=by
 unfold eM Za en col;have hi:i<ls.length:=by omega
 simp only [List.getD_eq_getElem?_getD,List.getElem?_map,List.getElem?_take,if_pos h,List.getElem?_eq_getElem hi];rfl
theorem QF.isH {n d m:Nat} {ps:List Nat} {ls:List Ln} (h:QF n d ps ls) (hd:Dim n m ls):IsH n ps (Za d ls):=by
 have hl:(Za d ls).length=d:=by unfold Za;have:=h.le;simp;omega
 refine ⟨λr hr => ?_,by rw [hl,h.len],λi hi => ?_,λi k hik hk => ?_,λi hi j hj => ?_,λi hi => ?_,λi k hik hk => ?_⟩
 ·obtain ⟨l,hl',rfl⟩:=List.mem_map.1 hr;exact (hd l (List.mem_of_mem_take hl')).1
 ·rw [hl] at hi;exact h.lt i hi
 ·rw [hl] at hk;exact h.inc i k hik hk
 ·rw [hl] at hi;rw [Kbf hi _ h.le];exact h.left i hi j hj
 ·rw [hl] at hi;rw [Kbf hi _ h.le];exact h.pos i hi
 ·rw [hl] at hk;rw [Kbf (by omega) _ h.le,Kbf hk _ h.le];exact h.red i k hik hk
theorem QF.lat {n d m:Nat} {ps:List Nat} {ls:List Ln} (h:QF n d ps ls) (hd:Dim n m ls):(∀v∈KF (Za d ls),v∈KaG ls)/\(∀v∈KaG ls,Ko (KF (Za d ls)) v):=by
 constructor
 ·intro v hv;obtain ⟨r,hr,rfl⟩:=List.mem_map.1 hv;obtain ⟨l,hl,rfl⟩:=List.mem_map.1 hr;exact List.mem_map.2 ⟨l,List.mem_of_mem_take hl,rfl⟩
 ·intro v hv;obtain ⟨l,hl,rfl⟩:=List.mem_map.1 hv;obtain ⟨i,hi,rfl⟩:=List.getElem_of_mem hl
  rcases Nat.lt_or_ge i d with hid | hid
  ·refine .mem (List.mem_map.2 ⟨ls[i].1,List.mem_map.2 ⟨ls[i],?_,rfl⟩,rfl⟩);have:i<(ls.take d).length:=by simp;omega
   have h2:=List.getElem_mem this;rwa [List.getElem_take] at h2
  ·have e:vr ls[i].1=λ_=>0:=by
    funext j
    rcases Nat.lt_or_ge j n with hj | hj
    ·have:=h.below i hid hi j hj;unfold en col at this;rwa [Ka hi] at this
    ·show ls[i].1.getD j 0=0;rw [List.getD_eq_getElem?_getD,List.getElem?_eq_none (by rw [(hd.get hi).1];exact hj)];rfl
   rw [e];exact .zero
def Zs (n:Nat) (M F:Mx):Prop:=(∃ps,IsH n ps F)/\(∀v∈KF F,Ko (KF M) v)/\(∀v∈KF M,Ko (KF F) v)
def KO (m i:Nat):List Int:=(List.replicate m 0).set i 1
def KmZ (M:Mx):List Ln:=M.mapIdx λi r=>(r,KO M.length i)
@[simp] theorem KnZ (M:Mx):(KmZ M).length=M.length:=by simp [KmZ]
end
section
open Go.RowKit Go.Sort
theorem Kl {w w':World} {g b o:Nat} {v:Value} (h:w.grownBy w' (some g)) (hne:b≠g) (hc:w.cell? ⟨b,o,none⟩=some v):w'.cell? ⟨b,o,none⟩=some v:=by
 have hb:b<w.heap.size:=World.block_lt_of_cell? _ _ hc;have:=h.block b hb (by simpa using hne);unfold World.cell? at *;rw [this];exact hc
def JC (j:Nat) (l:List Int):List Int:=(l.take j).map (λz => -z)++l.drop j
theorem KiQ (l:List Int):JC 0 l=l:=by simp [JC]
theorem Kk5 (l:List Int):JC l.length l=l.map (λz => -z):=by simp [JC]
@[simp] theorem KoJ (j:Nat) (l:List Int):(JC j l).length=l.length:=by simp [JC];omega
theorem Kk6 {j:Nat} {l:List Int} (h:j<l.length):(JC j l)[j]'(by simpa using h)=l[j]:=by
 unfold JC;rw [List.getElem_append_right (by simp;omega)];simp [Nat.min_eq_left (Nat.le_of_lt h)]
theorem KiP {j:Nat} {l:List Int} (h:j<l.length):JC (j+1) l=(JC j l).set j (-l[j]):=by
 unfold JC;rw [List.set_append_right _ _ (by simp;omega)];rw [List.take_add_one,List.map_append,List.append_assoc]
 congr 1
 rw [List.getElem?_eq_getElem h];simp only [Option.toList_some,List.map_cons,List.map_nil,List.length_map,List.length_take,Nat.min_eq_left (Nat.le_of_lt h),Nat.sub_self]
 conv=>rhs;rw [List.drop_eq_getElem_cons h]
 rfl
structure Ad where
 gx:Nat
 cx:Nat
 gy:Nat
 cy:Nat
 deriving Inhabited
theorem Kv {z:Int} {E:Nat} (h:z.natAbs<2^E):nd z<=E+1:=by
 refine KP (Nat.lt_of_lt_of_le h ?_) (by omega);exact Nat.le_trans (Nat.pow_le_pow_left (by omega) E) (Nat.pow_le_pow_right (by omega) (by omega))
def Krf (ad:List Ad) (i j:Nat):List Ad:=(ad.set i (ad.getD j default)).set j (ad.getD i default)
@[simp] theorem Kpz (ad:List Ad) (i j:Nat):(Krf ad i j).length=ad.length:=by simp [Krf]
def sg (i j t:Nat):Nat:=if t=j then i else if t=i then j else t
theorem Y5 {i j t n:Nat} (hi:i<n) (hj:j<n) (ht:t<n):sg i j t<n:=by unfold sg;split<;>(try split)<;>omega
theorem Ki6 {i j t u:Nat} (h:sg i j t=sg i j u):t=u:=by unfold sg at h;split at h<;>split at h<;>(try split at h)<;>(try split at h)<;>omega
theorem KkS (w:World) (b i:Nat) (v:Value):w.grownBy (w.setCell ⟨b,i,none⟩ v) (some b) :=
 ⟨rfl,rfl,rfl,by simp [World.setCell],λk _ hk=>Below.heap_setCell _ _ _ _ (λe=>hk (by simp [e]))⟩
theorem J0 {E:Nat} {q:Int} {a b:List Int} (ha : ∀z∈a,z.natAbs<2^E) (hb : ∀z∈b,z.natAbs<2^E) (hq:q.natAbs<2^E) (hE:2*E+2<LIM) :
  ∀(i:Nat) (h:i<b.length) (h':i<a.length),nd a[i]<LIM/\nd (q*b[i])<LIM/\nd q+nd b[i]<=LIM:=by
 intro i h h';have h1:=Kv (ha _ (List.getElem_mem h'));have h2:=Kv (hb _ (List.getElem_mem h));have h3:=Kv hq;have h4:=QY q b[i];omega
end
end Go.Proofs.YtdmaofimeknkbaaGreatDoor
