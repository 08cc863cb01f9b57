/- Part 32 of the proof of the claim: contracts of the functions that it reaches, and plain laws; no condition. -/
import Derived.Test.YtdmaofimeknkbaaGreatDoorQ31
import Derived.Test.YtdmaofimeknkbaaGreatDoorQ12
import Derived.Test.YtdmaofimeknkbaaGreatDoorQ29
set_option maxRecDepth 100000
set_option maxHeartbeats 20000000
namespace Go.Proofs.YtdmaofimeknkbaaGreatDoor
section
theorem Kpx (a:Int) {p:Int} (hp:p≠0):(a.fmod p).natAbs<p.natAbs:=by have:=ZF a hp;unfold Rs at this;omega
theorem Kma {n c E:Nat} {s:Dg} (h:ShD n c s) (hn:0<n) (hc:0<c) (hE:2<=E) (hp:eM s.a 0 0≠0) (ha:Bme E s.a):Bme (2*E+2) (Kw n c 0 s).a:=by
 intro x y;rw [(Ql h hn hc).2.1]
 have hq:(qC s 0 y*eM s.a 0 0).natAbs<=(eM s.a 0 y).natAbs+(eM s.a 0 0).natAbs:=by
  have h1:=ZF (eM s.a 0 y) hp;have e:=Yz (eM s.a 0 y) (eM s.a 0 0);rw [Int.mul_comm] at e;unfold qC;unfold Rs at h1;omega
 obtain ⟨R,hR⟩ : ∃R,R=if 0<x then eM s.a x 0-qRw s 0 x*eM s.a 0 0 else eM s.a x 0:=⟨_,rfl⟩
 have hRb:R.natAbs<=(eM s.a 0 0).natAbs:=by
  rw [hR];split
  ·have h1:=ZF (eM s.a x 0) hp;have e:=Yz (eM s.a x 0) (eM s.a 0 0);rw [Int.mul_comm] at e;unfold qRw;unfold Rs at h1;omega
  ·rw [show x=0 by omega];exact Nat.le_refl _
 rw [<-hR]
 have h2:(qC s 0 y*R).natAbs<=(eM s.a 0 y).natAbs+(eM s.a 0 0).natAbs:=by
  rw [Int.natAbs_mul] at hq ⊢;exact Nat.le_trans (Nat.mul_le_mul_left _ hRb) hq
 have h3:(qRw s 0 x*eM s.a 0 y).natAbs<=2^(E+E):=by
  rw [Int.natAbs_mul,<-pw1];exact Nat.mul_le_mul (Nat.le_of_lt (q_b ha hp)) (Nat.le_of_lt (ha _ _))
 have h4:=ha x y;have h5:=ha 0 y;have h6:=ha 0 0;have e1:2^(2*E+2)=4*2^(E+E):=by rw [show 2*E+2=(E+E)+1+1 by omega,pwS,pwS];omega
 have e2:2^(E+E)=2^E*2^E:=(pw1 E E).symm
 have e3:4<=2^E:=by
  have:(2:Nat)^2<=2^E:=Nat.pow_le_pow_right (by omega) hE;simpa using this
 have e4:4*2^E<=2^E*2^E:=Nat.mul_le_mul_right _ e3;rw [e1];rw [<-e2] at e4;generalize qC s 0 y*R=u at *;generalize qRw s 0 x*eM s.a 0 y=v at *;split<;>split<;>omega
theorem Knf {n c G' Et:Nat} (hF:5120<=Et) (hE2:G'<=Et) (K : ∀s,ZS n c 1 s->Bme 5120 s.a->Bme G' s.l->Bme G' s.r->OkD Et n c 1 s) :
  ∀j:Nat,(∀(L E G:Nat) (s:Dg),ZS n c 0 s->(∃x y,eM s.a x y≠0/\(eM s.a x y).natAbs<=L)->L<=9->2*L<=j->2<=E->E+3<=10*2^(9-L)->Bme E s.a->Bme G s.l->Bme G s.r->G+j*5122<=G'->OkD Et n c 0 s)
   /\ (∀(P E G:Nat) (s:Dg),ZS n c 0 s->eM s.a 0 0≠0->(eM s.a 0 0).natAbs=P->(∀x,0<x->eM s.a x 0=0)->(∃y,0<y/\y<c/\(eM s.a 0 y).fmod (eM s.a 0 0)≠0)->P<=9->2*P<=j+1->2<=E->E+3<=10*2^(10-P)->Bme E s.a->Bme G s.l->Bme G s.r->G+j*5122<=G'->OkD Et n c 0 s)
 | 0=>⟨λL E G s _ ⟨x,y,h0,h1⟩ _ h2 _ _ _ _ _ _=>by omega,λP E G s _ h0 h1 _ _ _ h2 _ _ _ _ _ _=>by omega⟩
 | j+1=>by
  obtain ⟨ih1,ih2⟩:=Knf hF hE2 K j
  have gen : ∀(L E G:Nat) (s:Dg),ZS n c 0 s->(∃x y,eM s.a x y≠0/\(eM s.a x y).natAbs<=L)->L<=9->2*L<=j+1->2<=E->E+3<=10*2^(9-L)->Bme E s.a->Bme G s.l->Bme G s.r->G+(j+1)*5122<=G'->OkD Et n c 0 s:=by
   rintro L E G s h ⟨x0,y0,hx0,hx1⟩ hL9 hL hE2' hE ha hl hr hG;have hG2:G+5122+j*5122<=G':=by omega
   have hrn:=Ya (t:=0) h.sh
   have hbE : ∀b:Nat,1<=b->b<=L->E+3<=10*2^(9-b):=λb _ hb2=>by
    have:2^(9-L)<=2^(9-b):=Nat.pow_le_pow_right (by omega) (by omega);omega
   have hEb:E+3<=2560:=by
    have:=hbE 1 (by omega) (by omega);simpa using this
   have hbd:KcT Et s=true:=Kdp ha hl hr (by omega) (by omega);generalize hst:Xc n c 0 s=st at hrn
   rcases hrn with h0 | ⟨i,k,hp,hu⟩ | ⟨i,k,q,y,hp,h1,h2,hj,hj1,hy,hy1,hbad⟩ | ⟨i,k,hp,h1,h2,h3⟩
   ·exact Kbq hbd hst
   all_goals
    have i0:=hp.i0;have i1:=hp.i1;have k0:=hp.k0;have k1:=hp.k1;have ht:0<n:=by omega
    have htc:0<c:=by omega
    obtain ⟨hv1,_⟩:=h.swap i0 i1 k0 k1;obtain ⟨hl1,hr1⟩:=Kgg h.sh ht i1 htc k1 hl hr;have hpe:=hp.piv h.sh;have hne:eM (Kp 0 i k s).a 0 0≠0:=by rw [hpe];exact hp.ne
    have hpL:(eM s.a i k).natAbs<=L:=by
     rcases hp.any h.sh (Nat.zero_le x0) (Nat.zero_le y0) with a | a
     ·exact absurd a hx0
     ·have:=a.1;omega
    have ha1:Bme E (Kp 0 i k s).a:=λx y=>by rw [(Q0 h.sh ht i1 htc k1).2.1];exact ha _ _
    obtain ⟨hv2,_⟩:=hv1.clear ht htc;obtain ⟨hl2,hr2⟩:=KdW hv1.sh ht htc hne ha1 hl1 hr1;have ha2:=Kma hv1.sh ht htc hE2' hne ha1;obtain ⟨b,hb⟩ : ∃b,b=(eM (Kp 0 i k s).a 0 0).natAbs:=⟨_,rfl⟩
    have hb1:1<=b:=by omega
    have hbL:b<=L:=by rw [hb,hpe];exact hpL
    have hbE2:=hbE b hb1 hbL;have ep:2^(9-(b-1))=2*2^(9-b):=by rw [show 9-(b-1)=(9-b)+1 by omega,pwS]
    have ep2:2^(10-b)=2*2^(9-b):=by rw [show 10-b=(9-b)+1 by omega,pwS]
   ·refine Jn hbd hst (ih1 (b-1) (2*E+2) (G+5122) _ hv2 ?_ (by omega) (by omega) (by omega) (by omega) ha2 (hl2.mono (by omega)) (hr2.mono (by omega)) hG2)
    rcases hu with ⟨x,x1,x2,x3⟩ | ⟨x,x1,x2,x3⟩
    ·refine ⟨x,0,?_,?_⟩
     ·rw [YQ hv1.sh ht htc x1];exact x3
     ·rw [YQ hv1.sh ht htc x1];have:=ZF (eM (Kp 0 i k s).a x 0) hne;unfold Rs at this;omega
    ·refine ⟨0,x,?_,?_⟩
     ·rw [Z4 hv1.sh ht htc x1];exact x3
     ·rw [Z4 hv1.sh ht htc x1];have:=ZF (eM (Kp 0 i k s).a 0 x) hne;unfold Rs at this;omega
   ·obtain ⟨hv3,_⟩:=hv2.add ht hj hj1;obtain ⟨hl3,hr3⟩:=Km1 hv2.sh ht hj1 hl2 hr2;obtain ⟨_,ea,_,_⟩:=XZ hv2.sh ht hj1;have z1:=KnX hv1.sh ht htc hne h1;have z2:=KnY hv1.sh ht htc hne h2;have hcp:=X5 hv1.sh ht htc
    have e00:eM (JE 0 q (Kw n c 0 (Kp 0 i k s))).a 0 0=eM (Kp 0 i k s).a 0 0:=by
     rw [ea,if_pos rfl,hcp,z1 q hj];omega
    refine Jn hbd hst (ih2 b (2*E+3) (G+5122) _ hv3 (by rw [e00];exact hne) (by rw [e00,hb]) (λx hx=>by rw [ea,if_neg (by omega)];exact z1 x hx) ⟨y,hy,hy1,?_⟩ (by omega) (by omega) (by omega) (by omega) ?_ (hl3.mono (by omega)) (hr3.mono (by omega)) hG2)
    ·rw [e00,ea,if_pos rfl,z2 y hy,Int.zero_add,<-hcp];exact hbad
    ·intro x y;rw [ea];have a1:=ha2 0 y;have a2:=ha2 q y;have a3:=ha2 x y;have e:2^(2*E+3)=2*2^(2*E+2):=pwS _;split<;>omega
   ·have z1:=KnX hv1.sh ht htc hne h1;have z2:=KnY hv1.sh ht htc hne h2;obtain ⟨hv3,_⟩:=hv2.posn ht z1 z2;obtain ⟨hl3,hr3⟩:=Km2 hv2.sh ht hl2 hr2;exact Jn hbd hst (K _ hv3 ((Kpe hv2.sh ht ha2).mono (by omega)) (hl3.mono (by omega)) (hr3.mono (by omega)))
  refine ⟨gen,?_⟩;rintro P E G s h h0 hP hcol ⟨y,hy,hyc,hyb⟩ hP9 hPj hE2' hE ha hl hr hG;have hP1:1<=P:=by omega
  have hG2:G+5122+j*5122<=G':=by omega
  have hG3:G+j*5122<=G':=Nat.le_trans (Nat.add_le_add_right (Nat.le_add_right G 5122) _) hG2;have hEL:E+3<=10*2^(9-(P-1)):=by rw [show 9-(P-1)=10-P by omega];exact hE
  have hEb:E+3<=5120:=by
   have:2^(10-P)<=2^9:=Nat.pow_le_pow_right (by omega) (by omega);omega
  by_cases hlow : ∃x y,eM s.a x y≠0/\(eM s.a x y).natAbs<P
  ·obtain ⟨x,y',hx,hx2⟩:=hlow;exact ih1 (P-1) E G s h ⟨x,y',hx,by omega⟩ (by omega) (by omega) hE2' hEL ha hl hr hG3
  ·have hno : ∀x y,eM s.a x y≠0->P<=(eM s.a x y).natAbs:=by
    intro x y hx
    rcases Nat.lt_or_ge (eM s.a x y).natAbs P with h9 | h9
    ·exact absurd ⟨x,y,hx,h9⟩ hlow
    ·exact h9
   have hrn:=Ya (t:=0) h.sh;have hbd:KcT Et s=true:=Kdp ha hl hr (by omega) (by omega)
   have hik : ∀i k,KeQ n c 0 s i k->i=0/\k=0:=by
    intro i k hp;refine Classical.byContradiction λhc => ?_
    rcases hp.any h.sh (Nat.le_refl 0) (Nat.le_refl 0) with a | ⟨_,a⟩
    ·exact h0 a
    ·have:=a (by omega);have:=hno i k hp.ne;omega
   generalize hst:Xc n c 0 s=st at hrn
   rcases hrn with h9 | ⟨i,k,hp,hu⟩ | ⟨i,k,q,y',hp,h1,h2,hj,hj1,hy',hy1,hbad⟩ | ⟨i,k,hp,h1,h2,h3⟩
   ·exact Kbq hbd hst
   all_goals
    obtain ⟨rfl,rfl⟩:=hik i k hp;have ht:0<n:=hp.i1;have htc:0<c:=hp.k1;have hsw : ∀x y,eM (Kp 0 0 0 s).a x y=eM s.a x y:=λx y=>by rw [(Q0 h.sh ht ht htc htc).2.1,Kdi,Kdi]
   ·obtain ⟨hv1,_⟩:=h.swap (Nat.le_refl 0) ht (Nat.le_refl 0) htc;obtain ⟨hl1,hr1⟩:=Kgg h.sh ht ht htc htc hl hr;have hne:eM (Kp 0 0 0 s).a 0 0≠0:=by rw [hsw];exact h0
    have ha1:Bme E (Kp 0 0 0 s).a:=λx y=>by rw [hsw];exact ha _ _
    obtain ⟨hv2,_⟩:=hv1.clear ht htc;obtain ⟨hl2,hr2⟩:=KdW hv1.sh ht htc hne ha1 hl1 hr1;have hr0:=Kpx (eM s.a 0 y) h0;refine Jn hbd hst (ih1 (P-1) E (G+5122) _ hv2 ⟨0,y,?_,?_⟩ (by omega) (by omega) hE2' hEL ?_ (hl2.mono (by omega)) (hr2.mono (by omega)) hG2)
    ·rw [Z4 hv1.sh ht htc hy,hsw,hsw];exact hyb
    ·rw [Z4 hv1.sh ht htc hy,hsw,hsw];omega
    ·intro x z
     by_cases hx:x=0
     ·subst hx
      by_cases hz:0<z
      ·rw [Z4 hv1.sh ht htc hz,hsw,hsw];exact Nat.lt_trans (Kpx (eM s.a 0 z) h0) (ha 0 0)
      ·obtain rfl:z=0:=by clear hr0;omega
       rw [X5 hv1.sh ht htc,hsw];exact ha _ _
     ·have hx0:0<x:=by clear hr0;omega
      have eq0:qRw (Kp 0 0 0 s) 0 x=0:=by unfold qRw;rw [hsw,hcol x hx0,KmD]
      rw [(Ql hv1.sh ht htc).2.1,if_pos hx0,if_pos hx0,eq0,hsw,hsw,hsw,hcol x hx0];simp only [Int.zero_mul,Int.sub_zero,Int.mul_zero,ite_self];exact ha _ _
   ·exfalso;have:=h2 y hy hyc;rw [hsw,hsw] at this;exact hyb this
   ·exfalso;have:=h2 y hy hyc;rw [hsw,hsw] at this;exact hyb this
theorem Ko8 (n i k:Nat):eM (Q7 n) i k=if k=i/\i<n then 1 else 0:=by
 unfold Q7 eM
 by_cases hi:i<n
 ·rw [Yj (λi=>KO n i) (List.range n) i (by simpa using hi) [] 0,Ka (l:=List.range n) (i:=i) (by simpa using hi)];simp only [List.getElem_range];exact KeI n i k
 ·rw [show (List.map (λi=>KO n i) (List.range n)).getD i []=[] by rw [List.getD_eq_getElem?_getD,List.getElem?_eq_none (by simp;omega)];rfl,if_neg (by omega)];simp
theorem Jx (n:Nat):(Q7 n).length=n/\Ku n (Q7 n):=⟨by simp [Q7],λr hr=>by
 obtain ⟨i,_,rfl⟩:=List.mem_map.1 hr
 simp [KO]⟩
theorem KfJ {c:Nat} {M:Mx} (hR:Ku c M):ZS M.length c 0 (Xs M c) :=
 ⟨⟨rfl,hR,(Jx _).1,(Jx _).2,(Jx _).1,(Jx _).2⟩,λi k _ h=>by omega⟩
theorem Kib (n:Nat):Bme 1 (Q7 n):=λi k=>by
 rw [Ko8];split<;>simp
def ED:Nat:=2000000000
theorem KkG {c:Nat} {M:Mx} (hn:M.length<=3) (hc:c<=3) (hR:Ku c M) (hent : ∀i k,(eM M i k).natAbs<128) (hlow:(∀i k,eM M i k=0) \/ ∃i k,eM M i k≠0/\(eM M i k).natAbs<=9):OkD ED M.length c 0 (Xs M c):=by
 have ha:Bme 7 (Xs M c).a:=λi k=>hent i k
 have hl:Bme 1 (Xs M c).l:=Kib _;have hr:Bme 1 (Xs M c).r:=Kib _;have hv:=KfJ hR
 rcases hlow with h0 | ⟨i,k,h0,h9⟩
 ·refine Kbq (Kdp (E:=ED) ha hl hr (by unfold ED;omega) (by unfold ED;omega)) ?_;have hrn:=Ya (t:=0) hv.sh;generalize hst:Xc M.length c 0 (Xs M c)=st at hrn
  rcases hrn with _ | ⟨i,k,hp,_⟩ | ⟨i,k,q,y,hp,_⟩ | ⟨i,k,hp,_⟩
  ·rfl
  ·exact absurd (h0 i k) hp.ne
  ·exact absurd (h0 i k) hp.ne
  ·exact absurd (h0 i k) hp.ne
 ·have K3 : ∀s,ZS M.length c 3 s->Bme 20486 s.a->Bme 1100000000 s.l->Bme 1100000000 s.r->OkD ED M.length c 3 s:=by
   intro s hs a1 a2 a3;refine Kbq (Kdp (E:=ED) a1 a2 a3 (by unfold ED;omega) (by unfold ED;omega)) ?_;have hrn:=Ya (t:=3) hs.sh;generalize hst:Xc M.length c 3 s=st at hrn
   rcases hrn with _ | ⟨i,k,hp,_⟩ | ⟨i,k,q,y,hp,_⟩ | ⟨i,k,hp,_⟩
   ·rfl
   ·have:=hp.i0;have:=hp.i1;omega
   ·have:=hp.i0;have:=hp.i1;omega
   ·have:=hp.i0;have:=hp.i1;omega
  have K2 : ∀s,ZS M.length c 2 s->Bme 10242 s.a->Bme 220000000 s.l->Bme 220000000 s.r->OkD ED M.length c 2 s:=λs hs a1 a2 a3 =>
   Kj0 (E:=10242) (G:=220000000) (G':=1100000000) (by omega) (by omega) (by unfold ED;omega) (by unfold ED;omega) (by omega) K3 hs a1 a2 a3
  have K1 : ∀s,ZS M.length c 1 s->Bme 5120 s.a->Bme 100000 s.l->Bme 100000 s.r->OkD ED M.length c 1 s:=λs hs a1 a2 a3 =>
   Kj0 (E:=5120) (G:=100000) (G':=220000000) (by omega) (by omega) (by unfold ED;omega) (by unfold ED;omega) (by omega) K2 hs a1 a2 a3
  exact (Knf (G':=100000) (by unfold ED;omega) (by unfold ED;omega) K1 18).1 9 7 1 _ hv ⟨i,k,h0,h9⟩ (by omega) (by omega) (by omega) (by omega) ha hl hr (by omega)
end
section
open Go.RowKit Go.Sort
open Lib (hid)
def Kn0 (w:World) (n c rank:Nat) (fin:Dg) (e:Ending) (w':World):Prop :=
 ∃x aa al ar,e = .returned (.tuple #[.pointer (some ⟨x.p,0,none⟩),.int .i64 rank])/\WkR w.heap.size w' n c x aa al ar fin/\Ext w w'
theorem Krk:I (-1) = .string ⟨#[45,49]⟩:=by
 unfold I S
 have h:Lib.itoa (-1)=[45,49]:=by
  unfold Lib.itoa;simp;rw [Lib.decDigits];rfl
 rw [h]
def Khz (t:Nat) (s2:Dg) (ok:Bool) (sp:Option Nat):Option (Nat×Dg):=if ok then (match sp with | some j=>some (t,JE t j s2) | none=>some (t+1,XF t s2)) else some (t,s2)
theorem Kls {n c t i k:Nat} {s:Dg} (h:QN s.a t (c-t) (n-t)=some (i,k)) :
  Xc n c t s=Khz t (Kw n c t (Kp t i k s)) (XO n c t (Kp t i k s)) (Q6 (Kw n c t (Kp t i k s)).a t (c-(t+1)) (n-(t+1))):=by
 unfold Xc;rw [h];rfl
theorem Kk8 (t:Nat) (s2:Dg) (ok:Bool) (sp:Option Nat) : ∃q,Khz t s2 ok sp=some q:=by
 unfold Khz
 cases ok
 ·exact ⟨_,rfl⟩
 ·cases sp<;>exact ⟨_,rfl⟩
theorem GrX.mem_lt {B:Nat} {w:World} {v:Value} {F:Mx} {ad:List (Nat×Nat)} {m:Nat} (h:GrX B w v F ad) (hR:Ku m F) (hm:0<m) : ∀y∈ad,B<=y.1/\y.1<w.heap.size:=λy hy=>by
 obtain ⟨i,hi,rfl⟩:=List.getElem_of_mem hy;have hi':i<F.length:=by rw [<-h.len];exact hi
 exact h.lt i hi hi' (by rw [hR _ (List.getElem_mem hi')];exact hm)
theorem Kf7 {w:World} {v:Value} {M:Mx} {c f rank E:Nat} {fin:Dg} (hM:KJ w v M) (hR:Ku c M) (h0:0<M.length) (hc0:0<c) (hl:M.length<=1000) (hc:c<=1000) (hent : ∀r∈M,∀z∈r,-1000000000<=z/\z<=1000000000)
  (hrun:Ka0 E M.length c f 0 (Xs M c)=some (rank,fin)) (hE:2*(4*E+3)+2<LIM) (hE1:1<=E) (hL:Laid w):Calls Tryz.prog 52 #[v] w (Kn0 w M.length c rank fin):=by
 obtain ⟨sa,gb,go,cp,vs,hv,hcp,hvl,hS,hr⟩:=id hM;obtain ⟨sr,br,or,cr,hrow,_,_⟩:=KJ.row hS hvl hr h0;have hrc:M[0].length=c:=hR _ (List.getElem_mem h0);rw [hrc,Nat.add_zero] at hrow;have hbig:=hid (Kek (w:=w) hM (by omega) (λr hr=>by rw [hR r hr];omega) (λr hr z hz=>by have:=hent r hr z hz;unfold I64;omega) hL);subst hv;obtain rfl:=hS.addr (by omega);obtain ⟨n,hn⟩ : ∃n,n=M.length:=⟨_,rfl⟩
 have hun:=hid (λW=>Kcm (w:=W) (n:=n) (by omega));have huc:=hid (λW=>Kcm (w:=W) (n:=c) (by omega));have HR:=hid hR;have Hn:=hid hn;have HE:=hid hE;have HL:=hid hL;have hn0:0<n:=by omega
 have hn1:n<=1000:=by omega
 have hnI:(0:Int)<(n:Int):=by omega
 rw [<-hn] at hrun hbig ⊢;have Hrun:=hid hrun;clear hM hR hent hrun hE hL hvl hS hr hrc hn
 go_enter Tryz.func52,Tryz.ntmps52
 go_wp2_with fail;refine hbig.out.mono ?_;rintro e w1 ⟨v1,ad1,rfl,hG1,hX1⟩;go_wp2_with fail;refine (hun.out w1).mono ?_;rintro e w2 ⟨v2,ad2,rfl,hG2,hX2⟩;obtain ⟨ga,ca,rfl,hca,hs1⟩:=hG1.shape;obtain ⟨g1,rfl⟩:=hs1 (by rw [<-Hn.out];exact hn0);obtain ⟨gl,cl,rfl,hcl,hs2⟩:=hG2.shape;obtain ⟨g2,rfl⟩:=hs2 (by rw [QA];exact hn0);rw [<-Hn.out] at hca ⊢;rw [QA] at hcl ⊢;have HG1:=hid hG1;have HG2:=hid hG2;have hb1:=hG1.outer.lt;have hb2:=hG2.outer.lt;have hrow1:=(hX1.trans hX2).cell hrow;have hgb:=World.block_lt_of_cell? _ _ hrow1;clear hG1 hG2 hbig hun;go_wp2_with fail;obtain ⟨W3,hW3⟩ : ∃W3,W3=w2.alloc (.cells #[slv g1 n ca,slv g2 n cl,.slice none 0 0,.int .i64 c] 112):=⟨_,rfl⟩
 have c0:W3.cell? ⟨w2.heap.size,0,none⟩=some (slv g1 n ca):=by rw [hW3];go_simp
 have c1:W3.cell? ⟨w2.heap.size,1,none⟩=some (slv g2 n cl):=by rw [hW3];go_simp
 have c2:W3.cell? ⟨w2.heap.size,2,none⟩=some (.slice none 0 0):=by rw [hW3];go_simp
 have c3:W3.cell? ⟨w2.heap.size,3,none⟩=some (.int .i64 c):=by rw [hW3];go_simp
 have fz:W3.frozen? ⟨w2.heap.size,2,none⟩=false:=by rw [hW3];go_simp
 have hX3:Ext w2 W3:=by
  rw [hW3];exact (Ext.refl w2).alloc _
 have hs3:w2.heap.size<W3.heap.size:=by rw [hW3];simp
 rw [<-hW3];clear hW3 hrow1 hgb hrow;refine (huc.out W3).mono ?_;rintro e w4 ⟨v4,ad4,rfl,hG4,hX4⟩;obtain ⟨gr,cr4,rfl,hcr4,hs4⟩:=hG4.shape;obtain ⟨g4,rfl⟩:=hs4 (by rw [QA];exact hc0);rw [QA] at hcr4 ⊢;have d0:=hX4.cell c0;have d1:=hX4.cell c1;have d2:=hX4.cell c2;have d3:=hX4.cell c3;have fz4:w4.frozen? ⟨w2.heap.size,2,none⟩=false:=(Ext.frozen (a:=W3) (b:=w4) hX4 (by exact hs3)).trans fz;have hX14:=(hX1.trans hX2).trans (hX3.trans hX4);have HG4:=hid hG4;clear hG4 huc c0 c1 c2 c3 fz;go_wp2_with fail;obtain ⟨p,hp⟩ : ∃p,p=w2.heap.size:=⟨_,rfl⟩
 have hsz4:=hX4.size;have hG5:w4.grownBy (w4.setCell ⟨w2.heap.size,2,none⟩ (slv g4 c cr4)) (some w2.heap.size):=KkS _ _ _ _
 have hrk:=hid (show WkR w.heap.size (w4.setCell ⟨w2.heap.size,2,none⟩ (slv g4 c cr4)) n c ⟨w2.heap.size,g1,ca,g2,cl,g4,cr4⟩ ad1 ad2 ad4 (Xs M c) by
  have a1:=HG1.out.outer.lt;have a2:=HG2.out.outer.lt;have a4:=HG4.out.outer.lt;have s1:=hX1.size;have s2:=hX2.size;have s3:=hX3.size;have m1:=HG1.out.mem_lt HR.out hc0;have m2:=HG2.out.mem_lt (Jw n) hn0;have m4:=HG4.out.mem_lt (Jw c) hc0;have HG1':=(HG1.out.ext hX2).ext (hX3.trans hX4);have HG2':=(HG2.out.mono (B':=w.heap.size) s1).ext (hX3.trans hX4);rw [show Q7 n=(Xs M c).l by show Q7 n=Q7 M.length;rw [<-Hn.out]] at HG2';have HG4':=HG4.out.mono (B':=w.heap.size) (by omega);refine ⟨?_,?_,?_,?_,HG1'.keepG hG5 (by omega) (λy hy=>by have:=m1 y hy;omega),HG2'.keepG hG5 (by omega) (λy hy=>by have:=m2 y hy;omega),HG4'.keepG hG5 (by omega) (λy hy=>by have:=m4 y hy;omega),Hn.out.symm,?_,by simp [Xs],HR.out,?_,Jw c,by show w.heap.size<=w2.heap.size;omega,⟨by show w2.heap.size≠g1;omega,by show w2.heap.size≠g2;omega,by show w2.heap.size≠g4;omega⟩,⟨λy hy=>by have:=m1 y hy;show y.1≠w2.heap.size;omega,λy hy=>by have:=m2 y hy;show y.1≠w2.heap.size;omega,λy hy=>by have:=m4 y hy;show y.1≠w2.heap.size;omega⟩,⟨by show g1≠g2;omega,by show g1≠g4;omega,by show g2≠g4;omega⟩,⟨λy hy z hz=>by have:=m1 y hy;have:=m2 z hz;omega,λy hy z hz=>by have:=m1 y hy;have:=m4 z hz;omega,λy hy z hz=>by have:=m2 y hy;have:=m4 z hz;omega⟩⟩
  ·rw [World.cell?_setCell_other (h:=by simp)];exact d0
  ·rw [World.cell?_setCell_other (h:=by simp)];exact d1
  ·rw [World.cell?_setCell_same (h:=d2)]
  ·rw [World.cell?_setCell_other (h:=by simp)];exact d3
  ·show (Q7 M.length).length=n;rw [QA,<-Hn.out]
  ·show Ku n (Q7 M.length)
   rw [<-Hn.out];exact Jw n)
 have hX5:Ext w (w4.setCell ⟨w2.heap.size,2,none⟩ (slv g4 c cr4)):=Kb hX14 hG5 (by have:=hX1.size;have:=hX2.size;omega);generalize hW5:World.setCell w4 _ _=W5 at *;clear hW5 d0 d1 d2 d3 fz4 hG5 HG1 HG2 HG4;rw [<-hp] at hrk ⊢;clear hp;go_wp2_with fail
 go_loopg [5] f (λk tv wr => ∃(t:Nat) (s:Dg) (aa al:List (Nat×Nat)),tv = .int .i64 t/\t<=n/\t<=c/\Hid (WkR w.heap.size wr n c ⟨p,g1,ca,g2,cl,g4,cr4⟩ aa al ad4 s)/\Ext w wr/\Hid (Ka0 E n c k t s=some (rank,fin)))
 case atStart=>exact ⟨0,_,ad1,ad2,by go_num,by omega,by omega,hrk,hX5,Hrun⟩
 case round =>
  clear hrk Hrun;obtain ⟨t,s,aa,al,rfl,htn,htc,hW,hE2,hK⟩:=hrel;generalize wr=V at *;obtain ⟨g,hkg,hbd,hst⟩:=Klo hK.out;obtain ⟨bA,bL,bR⟩:=Kpf hbd;obtain ⟨b,hb⟩ : ∃b,b=QN s.a t (c-t) (n-t):=⟨_,rfl⟩
  have hlw:=hid (KoD hW.out hc0 htn htc (by omega) (by omega) bA (by have:=HE.out;omega));have hin:=KaS (A:=s.a) (n:=n) htc (n-t) (by omega);rw [<-hb] at hlw hin;have BA:=hid bA;have BL:=hid bL;have BR:=hid bR;have HEm:=hid (show 2*E+2<LIM by have:=HE.out;omega);have Hkg:=hid hkg;clear bA bL bR hbd hkg
  cases b with
  | none =>
   have hsd:Xc n c t s=none:=by unfold Xc;rw [<-hb]
   have hR:(rank,fin)=(t,s):=by
    rcases hst with ⟨_,h⟩ | ⟨q,h,_⟩
    ·exact h
    ·rw [hsd] at h;cases h
   injection hR with hR1 hR2
   subst hR1 hR2;clear hst hb hin hsd;go_wp2_with fail;refine hlw.out.mono ?_;rintro e W1 ⟨rfl,hY1⟩
   try simp only [lrB,lcB,lfB]
   go_wp2_with fail;go_ret2;exact ⟨_,aa,al,ad4,rfl,hW.out.ext hY1,hE2.trans hY1⟩
  | some q =>
   obtain ⟨i,k⟩:=q;obtain ⟨r1,r2,r3,r4,r5⟩:=hin (i,k) rfl;simp only at r1 r2 r3 r4 r5;have htn':t<n:=by omega
   have htc':t<c:=by omega
   obtain ⟨s1,hs1⟩ : ∃s1,s1=Kp t i k s:=⟨_,rfl⟩
   obtain ⟨s2,hs2⟩ : ∃s2,s2=Kw n c t s1:=⟨_,rfl⟩
   obtain ⟨ok,hok⟩ : ∃ok,ok=XO n c t s1:=⟨_,rfl⟩
   obtain ⟨sp,hsp⟩ : ∃sp,sp=Q6 s2.a t (c-(t+1)) (n-(t+1)):=⟨_,rfl⟩
   have hsd:Xc n c t s=Khz t s2 ok sp:=by rw [hsp,hok,hs2,hs1];exact Kls hb.symm
   have hnx : ∃q,Khz t s2 ok sp=some q/\Ka0 E n c g q.1 q.2=some (rank,fin):=by
    rcases hst with ⟨h,_⟩ | h
    ·obtain ⟨q,hq⟩:=Kk8 t s2 ok sp;rw [hsd,hq] at h;cases h
    ·rw [hsd] at h;exact h
   obtain ⟨q,hq1,hq2⟩:=hnx;have Hq1:=hid hq1;have Hq2:=hid hq2;have hb1:=Ko1 (t:=t) (i:=i) (k:=k) BA.out BL.out BR.out hW.out.la hW.out.ll htn' r2;have hp1:=Klz hW.out.la hW.out.ra htn' r2 htc' r4;rw [<-hs1] at hb1 hp1;have Hb1:=hid hb1;have Hp1:=hid (show eM s1.a t t≠0 by rw [hp1];exact r5);have hsw:=hid (λW (hY:Ext V W)=>Kqw (w0:=w) (w:=W) (t:=t) (row:=i) (k:=k) (hW.out.ext hY) hn0 hc0 htn' htc' r2 r4 (by omega) (by omega) (hE2.trans hY));rw [<-hs1] at hsw;have Hs2:=hid hs2;have Hok:=hid hok;have Hsp:=hid hsp;clear hst hb hin hsd hq1 hq2 hb1 hp1 hs1 hs2 hok hsp r5;go_wp2_with fail;refine hlw.out.mono ?_;rintro e W1 ⟨rfl,hY1⟩
   try simp only [lrB,lcB,lfB]
   go_wp2_with fail;refine (hsw.out _ hY1).mono ?_;rintro e W2 ⟨rfl,hW2,hE4⟩;generalize sw2 aa (0,0) t i=aa2 at *;generalize sw2 al (0,0) t i=al2 at *;have hcl:=hid (Koa (E:=E) hW2 htn' htc' (by omega) (by omega) Hb1.out.1 Hb1.out.2.1 Hb1.out.2.2 Hp1.out HE.out HL.out hE4);rw [<-Hs2.out,<-Hok.out] at hcl;have hb2:=Kmb (E:=E) Hb1.out.1 Hb1.out.2.1 Hb1.out.2.2 hW2.la hW2.ll hW2.ra htn' htc' Hp1.out;rw [<-Hs2.out] at hb2;have Hb2:=hid hb2;clear hW2 hsw hlw hb2 hW;go_wp2_with fail;refine hcl.out.mono ?_;rintro e W3 ⟨rfl,hW3,hE5⟩;have HW3:=hid hW3;clear hW3 hcl
   cases ok
   ·have Hq3:=hid (show q=(t,s2) by have:=Hq1.out;simp [Khz] at this;exact this.symm);clear Hq1;go_wp2_with fail
    go_roundg g
    case measure=>rw [Hkg.out];omega
    case rel=>exact ⟨t,s2,aa2,al2,rfl,by omega,by omega,HW3,hE5,hid (by have:=Hq2.out;rw [Hq3.out] at this;exact this)⟩
   ·have hsp:=hid (Klr (E:=4*E+3) HW3.out htn' htc' (by omega) (by omega) Hb2.out.1 (by rw [Hb2.out.2.2.2];exact Hp1.out) HE.out (HL.out.ext hE5));rw [<-Hsp.out] at hsp
    cases sp with
    | some j =>
     have hji:=KhW Hsp.out.symm;have hjn:j<n:=by omega
     have hjI:(j:Int)<(n:Int):=by omega
     have htI:(t:Int)<(n:Int):=by omega
     have Hq3:=hid (show q=(t,JE t j s2) by have:=Hq1.out;simp [Khz] at this;exact this.symm);clear Hq1;go_wp2_with fail;refine hsp.out.mono ?_;rintro e W4 ⟨rfl,hY4⟩
     try simp only [spI,spB]
     have hW4:=HW3.out.ext hY4;have hE6:=hE5.trans hY4;have hcA:=hW4.c0;have hcL:=hW4.c1;obtain ⟨gt,ct,eat,hmt,h1,o1,_,_⟩:=hW4.a.atM hW4.ra hc0 (by rw [hW4.la];exact htn':t<_);obtain ⟨gj,cj,eaj,_,h2,_,_,_⟩:=hW4.a.atM hW4.ra hc0 (by rw [hW4.la];exact hjn:j<_);obtain ⟨gu,cu,elt,_,h3,_,_,_⟩:=hW4.l.atM hW4.rl hn0 (by rw [hW4.ll];exact htn':t<_);obtain ⟨gk,ck,elj,_,h4,_,_,_⟩:=hW4.l.atM hW4.rl hn0 (by rw [hW4.ll];exact hjn:j<_);simp only at hcA hcL h1 h2 h3 h4;have hm1:((-1:Int)).natAbs<2^(4*E+3):=Nat.lt_of_lt_of_le (by decide:((-1:Int)).natAbs<2^1) (Nat.pow_le_pow_right (by omega) (by omega));have htA:=hid (λW (hX:Ext W4 W)=>Kkh (w0:=w) (w:=W) (E:=4*E+3) (q := -1) (hW4.ext hX) hc0 (by omega) htn' hjn (by omega) eat eaj (Hb2.out.1.at t) (Hb2.out.1.at j) hm1 HE.out HL.out (hE6.trans hX));have htL:=hid (λW (h2:WkR w.heap.size W n c ⟨p,g1,ca,g2,cl,g4,cr4⟩ aa2 al2 ad4 { s2 with a:=QJ t j (-1) s2.a }) (hX:Ext w W)=>Kki (w0:=w) (w:=W) (E:=4*E+3) (q := -1) h2 (by omega) htn' hjn (by omega) elt elj (Hb2.out.2.1.at t) (Hb2.out.2.1.at j) hm1 HE.out HL.out hX);have hz49:=Krk;rw [hz49] at htA htL;have hdl:Hid (g2≠gt/\p≠gt):=hid ⟨Ne.symm (K7 hW4.l.outer o1),Ne.symm (hW4.pi.1 _ hmt)⟩;have k1:=cell_regrown hcA;have k2:=cell_regrown h1;have k3:=cell_regrown h2;clear hsp hm1 hz49 hmt o1 hW4 eat eaj elt elj;go_wp2_with fail;refine Km 14 (by kernel_rfl) (by kernel_rfl) ?_;simp only [List.take_succ_cons,List.take_zero,List.drop_succ_cons,List.drop_zero]
     repeat (go_big_quiet_step (fail))
     refine wpQuiet_nil ?_;intro _ hw';obtain ⟨⟨dq,osq⟩,hw''⟩:=hw';subst hw'';have hY5:=Kk W4 dq osq;clear k1 k2 k3;generalize hW5:grow (redrawn _ _) _=W5 at *;clear hW5;go_wp2_with fail;refine (htA.out _ hY5).mono ?_;rintro e W7 ⟨rfl,hW7,hE7,hG7⟩;have hC7:Chg (λk=>k=gt) W5 W7:=Chg.of_grown hG7 rfl;have d1:=hC7.cell hdl.out.2 (hY5.cell hcL);have d2:=hC7.cell hdl.out.1 (hY5.cell h3);have d3:=hC7.cell hdl.out.1 (hY5.cell h4);have HtL:=hid (λW (hX:Ext W7 W)=>htL.out W (hW7.ext hX) (hE7.trans hX));have k1:=cell_regrown d1;have k2:=cell_regrown d2;have k3:=cell_regrown d3;clear hC7 hG7 htA htL hW7;go_wp2_with fail;refine Km 14 (by kernel_rfl) (by kernel_rfl) ?_;simp only [List.take_succ_cons,List.take_zero,List.drop_succ_cons,List.drop_zero]
     repeat (go_big_quiet_step (fail))
     refine wpQuiet_nil ?_;intro _ hw';obtain ⟨⟨dq,osq⟩,hw''⟩:=hw';subst hw'';have hY8:=Kk W7 dq osq;clear k1 k2 k3;generalize hW8:grow (redrawn _ _) _=W8 at *;clear hW8;go_wp2_with fail;refine (HtL.out _ hY8).mono ?_;rintro e W9 ⟨rfl,hW9,hE9,_⟩;have HW9:=hid (show WkR w.heap.size W9 n c ⟨p,g1,ca,g2,cl,g4,cr4⟩ aa2 al2 ad4 (JE t j s2) from hW9);clear hW9 HtL;go_wp2_with fail
     go_roundg g
     case measure=>rw [Hkg.out];omega
     case rel=>exact ⟨t,JE t j s2,aa2,al2,rfl,by omega,by omega,HW9,hE9,hid (by have:=Hq2.out;rw [Hq3.out] at this;exact this)⟩
    | none =>
     have htI:(t:Int)<(n:Int):=by omega
     have htcI:(t:Int)<(c:Int):=by omega
     have Hq3:=hid (show q=(t+1,XF t s2) by have:=Hq1.out;simp [Khz] at this;exact this.symm);clear Hq1;go_wp2_with fail;refine hsp.out.mono ?_;rintro e W4 ⟨rfl,hY4⟩
     try simp only [spI,spB]
     have hW4:=HW3.out.ext hY4;have hE6:=hE5.trans hY4;have hcA:=hW4.c0;obtain ⟨gt,ct,eat,hmt,h1,o1,_,hel⟩:=hW4.a.atM hW4.ra hc0 (by rw [hW4.la];exact htn':t<_);obtain ⟨gu,cu,elt,_,h3,_,_,_⟩:=hW4.l.atM hW4.rl hn0 (by rw [hW4.ll];exact htn':t<_);have hcL:=hW4.c1;have e1:=hel t htc';simp only at hcA h1 h3 hcL;obtain ⟨z,hz⟩ : ∃z,z=eM s2.a t t:=⟨_,rfl⟩
     rw [<-hz] at e1;have hz0:z≠0:=by rw [hz,Hb2.out.2.2.2];exact Hp1.out
     have hdl:Hid (g2≠gt/\p≠gt):=hid ⟨Ne.symm (K7 hW4.l.outer o1),Ne.symm (hW4.pi.1 _ hmt)⟩;have HS:=hid (λW=>ZJ z W);have htA:=hid (λW (hX:Ext W4 W)=>Ko6 (w0:=w) (w:=W) (E:=4*E+3) (hW4.ext hX) hc0 (by omega) htn' eat (Hb2.out.1.at t) HE.out (hE6.trans hX));have htL:=hid (λW (h2:WkR w.heap.size W n c ⟨p,g1,ca,g2,cl,g4,cr4⟩ aa2 al2 ad4 { s2 with a:=ZT t s2.a }) (hX:Ext w W)=>Ko7 (w0:=w) (w:=W) (E:=4*E+3) h2 (by omega) htn' elt (Hb2.out.2.1.at t) HE.out hX);have HW4:=hid hW4;have Hz:=hid hz;clear hsp hmt o1 hel hz eat hW4
     rcases Int.lt_or_gt_of_ne hz0 with hz1 | hz1
     ·have hs1:z.sign = -1:=Int.sign_eq_neg_one_of_neg hz1;have Hpos:=hid (show XF t s2=⟨ZT t s2.a,ZT t s2.l,s2.r⟩ by unfold XF;rw [if_pos (by rw [<-Hz.out];exact hz1)]);rw [hs1] at HS;clear hs1 hz1 hz0;go_wp2_with fail;refine (HS.out _).mono ?_;rintro e W5 ⟨rfl,hY5⟩;replace hcA:=hY5.cell hcA;replace h1:=hY5.cell h1;replace h3:=hY5.cell h3;replace hcL:=hY5.cell hcL;clear e1 HS;go_wp2_with fail;refine (htA.out _ hY5).mono ?_;rintro e W6 ⟨rfl,hW6,hE7⟩;have hcL6:=hW6.c1;obtain ⟨gv,cv,elv,_,h4,_,_,_⟩:=hW6.l.atM hW6.rl hn0 (by rw [hW6.ll];exact htn':t<_);rw [elt] at elv;injection elv with elv
      injection elv with e2 e3
      subst e2 e3;simp only at hcL6 h4;have HL6:=hid (htL.out W6 hW6 hE7);clear htA htL h3 hcL hW6 h1 hcA;go_wp2_with fail;refine HL6.out.mono ?_;rintro e W7 ⟨rfl,hW7,hE8⟩;have HW7:=hid (show WkR w.heap.size W7 n c ⟨p,g1,ca,g2,cl,g4,cr4⟩ aa2 al2 ad4 (XF t s2) by rw [Hpos.out];exact hW7);clear hW7 HL6;go_wp2_with fail
      go_roundg g
      case measure=>rw [Hkg.out];omega
      case rel=>exact ⟨t+1,XF t s2,aa2,al2,by go_num,by omega,by omega,HW7,hE8,hid (by have:=Hq2.out;rw [Hq3.out] at this;exact this)⟩
     ·have hs1:z.sign=1:=Int.sign_eq_one_of_pos hz1;have Hpos:=hid (show XF t s2=s2 by unfold XF;rw [if_neg (by rw [<-Hz.out];omega)]);rw [hs1] at HS;clear hs1 hz1 hz0;go_wp2_with fail;refine (HS.out _).mono ?_;rintro e W5 ⟨rfl,hY5⟩;clear e1 HS;go_wp2_with fail
      go_roundg g
      case measure=>rw [Hkg.out];omega
      case rel=>exact ⟨t+1,XF t s2,aa2,al2,by go_num,by omega,by omega,hid (by rw [Hpos.out];exact HW4.out.ext hY5),hE6.trans hY5,hid (by have:=Hq2.out;rw [Hq3.out] at this;exact this)⟩
def JB (rank:Nat) (A:Mx):List Int:=(List.range rank).map λi=>eM A i i
@[simp] theorem XR (rank:Nat) (A:Mx):(JB rank A).length=rank:=by simp [JB]
theorem Kit {rank i:Nat} (A:Mx) (h:i<rank):(JB rank A).take (i+1)=(JB rank A).take i++[eM A i i]:=by
 rw [List.take_succ_eq_append_getElem (by simpa using h)];simp [JB]
def KfT (w:World) (D:List Int) (e:Ending) (w':World):Prop :=
 (if QK D then ∃v,e = .returned (.tuple #[v,.int .i64 0])/\KH w.heap.size w' v D else e = .returned (.tuple #[.slice none 0 0,.int .i64 4]))/\Ext w w'
theorem KgD {w:World} {v:Value} {M:Mx} {c f rank E:Nat} {fin:Dg} (hM:KJ w v M) (hck:Qr M=0) (h0:0<M.length) (hc:c=KX M) (hc0:0<c)
  (hrun:Ka0 E M.length c f 0 (Xs M c)=some (rank,fin)) (hr1:rank<=M.length) (hr2:rank<=c) (hb:BM E fin.a) (hE:2*(4*E+3)+2<LIM) (hE1:1<=E) (hL:Laid w) :
  Calls Tryz.prog 29 #[v] w (KfT w (JB rank fin.a)):=by
 obtain ⟨hl12,hn12,hRt,hent⟩:=Kal hck;rw [<-hc] at hn12 hRt;have hch:=hid (Xf hM);rw [hck] at hch;have hdg:=hid (λW (hW:Ext w W)=>Kf7 (hM.ext hW) hRt h0 hc0 (by omega) (by omega) hent hrun hE hE1 (hL.ext hW));obtain ⟨n,hn⟩ : ∃n,n=M.length:=⟨_,rfl⟩
 rw [<-hn] at hdg hr1 hl12 h0;have HB:=hid hb;have HE:=hid hE;have HL:=hid hL;obtain ⟨sa,gb,go,cap,vs,rfl,hcap,hvl,hS,hr⟩:=hM;rw [<-hn] at hch ⊢;rw [<-hn] at hdg;clear hck hRt hent hrun hb hE hE1 hL hc hn hvl hS hr hcap;obtain ⟨D,hD⟩ : ∃D,D=JB rank fin.a:=⟨_,rfl⟩
 rw [<-hD];have HD:=hid hD;clear hD
 go_enter Tryz.func29,Tryz.ntmps29
 go_wp2_with fail;refine hch.out.mono ?_;rintro e w1 ⟨rfl,hE1⟩;go_wp2_with fail;refine (hdg.out _ hE1).mono ?_;rintro e w2 ⟨⟨p,ga,ca,gl,cl,gr,cr⟩,aa,al,ar,rfl,hW,hE2⟩;have HW:=hid hW;have hE12:=hE1.trans hE2;have hcA:=hW.c0;simp only at hcA;clear hch hdg hW;go_wp2_with fail
 go_loopw [7,22] (λlv idx wr => ∃i:Nat,i<=rank/\idx = .int .i64 i/\Hid (KW w2.heap.size wr lv (D.take i))/\Ext w2 wr) (λ_ idx _=>rank-(intOf idx).toNat)
 case atStart=>exact ⟨0,by omega,by go_num,hid (KW.nil _ _),Ext.refl _⟩
 case round =>
  obtain ⟨i,hi,rfl,hO,hE3⟩:=hrel;generalize wr=X at *;have hcX:=hE3.cell hcA
  by_cases hlt:i<rank
  ·have hin:i<n:=by omega
   have hii:(i:Int)<(rank:Int):=by omega
   have hinI:(i:Int)<(n:Int):=by omega
   have hicI:(i:Int)<(c:Int):=by omega
   obtain ⟨gx,cx,_,_,h1,_,_,hel⟩:=(HW.out.a.ext hE3).atM HW.out.ra hc0 (by rw [HW.out.la];exact hin:i<_);have h2:=hel i (by omega);simp only at h1;obtain ⟨z,hz⟩ : ∃z,z=eM fin.a i i:=⟨_,rfl⟩
   rw [<-hz] at h2;have Hsn:=hid (show D.take (i+1)=D.take i++[z] by rw [HD.out,hz];exact Kit _ hlt);have Hil:=hid (show (D.take i).length=i by rw [List.length_take,HD.out,XR];omega);have hXs:=hE3.size;clear hz hel;go_wp2_with (at_builtin;refine KgI rfl _ _ rfl rfl (hO.out.ext ((Ext.refl _).alloc _)) rfl (b:=X.heap.size) (z:=z) (by go_simp) (by rw [Hil.out];omega) (by simp;omega) ?_;intro gg cap2 w8 hO8 hB8 hG8;rw [Hil.out] at hO8 ⊢;rw [<-Hsn.out] at hO8)
   have hE8:Ext w2 w8:=Below.trans (hE3.alloc _) hB8;have HO8:=hid hO8;clear hG8 hB8 hO8;go_wp2_with fail;go_roundw
   case rel=>exact ⟨i+1,by omega,by go_num,HO8,hE8⟩
   case measure=>simp [intOf]<;>omega
  ·have hir:i=rank:=by omega
   have hii : ¬(i:Int)<(rank:Int):=by omega
   have hO2:=hO.out;rw [hir,List.take_of_length_le (by rw [HD.out,XR];exact Nat.le_refl _)] at hO2;obtain ⟨sa2,sb2,sc2,hlv,hsc,hS2⟩:=hO2.sl;have hDl:D.length=rank:=by rw [HD.out,XR]
   have HDl:=hid hDl
   have HDb:=hid (show ∀z∈D,nd z<=LIM from λz hz=>by
    rw [HD.out] at hz;obtain ⟨t,_,rfl⟩:=List.mem_map.1 hz;have:=Kv (HB.out.el t t);have:=HE.out
    omega)
   have hE23:=hE12.trans hE3
   have hsml:=hid (λW bx (hY:Ext X W) (hbx:W.cell? ⟨bx,0,none⟩=some (.slice sa2 D.length sc2)) =>
    Ket (w:=W) (v := .slice (some ⟨bx,0,none⟩) 1 1) (M:=[D]) ⟨_,bx,0,1,[.slice sa2 D.length sc2],rfl,Nat.le_refl _,rfl,⟨λ_=>rfl,λi x hx=>by
     have:i=0:=by have:=(List.getElem?_eq_some_iff.1 hx).1;simp at this;omega
     subst this;simp only [List.getElem?_cons_zero,Option.some.injEq] at hx
     rw [<-hx];exact hbx⟩,λi a bb'=>by
     have:i=0:=by simp at a;omega
     subst this
     exact ⟨sa2,sb2,0,sc2,rfl,hsc,hS2.ext hY⟩⟩ (by simp) (λr hr=>by simp at hr;subst hr;rw [HDl.out];omega) (λr hr z hz=>by simp at hr;subst hr;exact HDb.out z hz) (HL.out.ext (hE23.trans hY)))
   subst hlv;clear hO hO2 hir hlt hS2 hDl;go_wp2_with fail;refine (hsml.out _ X.heap.size ((Ext.refl _).alloc _) (by go_simp)).mono ?_;rintro e w9 ⟨hp9,hE11⟩;have hfin:=hE23.trans (((Ext.refl X).alloc (.cells #[.slice sa2 D.length sc2] 108)).trans hE11)
   cases hs:QK D
   ·have hsm:Xq [D]=false:=by simp [Xq,hs]
    rw [if_neg (by rw [hsm];decide)] at hp9;subst hp9;have Hres:=hid (show KfT w D (.returned (.tuple #[.slice none 0 0,.int .i64 4])) w9 from ⟨by rw [if_neg (by rw [hs];decide)],hfin⟩);clear hs hsm;go_wp2_with fail;go_ret2;exact Hres.out
   ·have hsm:Xq [D]=true:=by simp [Xq,hs]
    rw [if_pos hsm] at hp9;obtain ⟨vr,rfl,hvr⟩:=hp9;obtain ⟨vs9,hv1,hv2,hv3⟩:=hvr;have h90:=hv3 0 (by simp) (by rw [hv1];simp)
    rcases hv2.2 with ⟨_,h0'⟩ | ⟨g9,c9,cur9,rfl,_,_,hc9,_⟩
    ·simp at h0'
    ·have hc9':=World.ownsRow.cellAt hv2 0 (by simp);rw [List.getElem?_eq_getElem (by rw [hv1];simp)] at hc9';simp only [List.length_singleton] at hc9 hc9';obtain ⟨rv,hrv⟩ : ∃rv,rv=vs9[0]'(by rw [hv1];simp):=⟨_,rfl⟩
     rw [<-hrv] at hc9' h90;have hc10:w9.cell? ⟨g9,0,none⟩=some rv:=by simpa using hc9'
     have hsz8:=(hE23.trans ((Ext.refl X).alloc (.cells #[.slice sa2 D.length sc2] 108))).size;have Hres:=hid (show KfT w D (.returned (.tuple #[rv,.int .i64 0])) w9 from ⟨by rw [if_pos hs];exact ⟨rv,rfl,KH.mono h90 hsz8⟩,hfin⟩);clear hs hsm h90 hv1 hv2 hv3 hrv hc9';go_wp2_with fail;go_ret2;exact Hres.out
end
end Go.Proofs.YtdmaofimeknkbaaGreatDoor
