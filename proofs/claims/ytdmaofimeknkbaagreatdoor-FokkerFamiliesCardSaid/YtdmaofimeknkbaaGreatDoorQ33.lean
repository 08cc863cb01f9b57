/- Part 33 of the proof of the claim: contracts of the functions that it reaches, and plain laws; no condition. -/
import Derived.Test.YtdmaofimeknkbaaGreatDoorQ27
import Derived.Test.YtdmaofimeknkbaaGreatDoorQ31
import Derived.Test.YtdmaofimeknkbaaGreatDoorQ32
import Derived.Test.YtdmaofimeknkbaaGreatDoorQ24
import Derived.Test.YtdmaofimeknkbaaGreatDoorQ21
import Derived.Test.YtdmaofimeknkbaaGreatDoorQ25
set_option maxRecDepth 100000
set_option maxHeartbeats 20000000
namespace Go.Proofs.YtdmaofimeknkbaaGreatDoor
section
open Go.RowKit Go.Sort
def Kpd (M:Mx) (D:List Int):Prop := ∃n c rank fin,n<=3/\Kkp n c (eM M) rank fin/\D=JB rank fin.a
theorem KiF {ι:Type} {f:ι->Int} {g:Int} {K:Nat} (h : ∀x,(∀i,x∣f i)↔x∣g) (hb : ∀i,(f i).natAbs<=K):g.natAbs<=K:=by
 by_cases h0:g=0
 ·rw [h0];exact Nat.zero_le _
 ·have hex : ∃i,f i≠0:=Classical.byContradiction λhc=>h0 (Int.zero_dvd.1 ((h 0).1 λi=>by
   have:f i=0:=Classical.byContradiction λh=>hc ⟨i,h⟩
   rw [this];exact Int.dvd_refl _))
  obtain ⟨i,hi⟩:=hex;have h1:g∣f i:=(h g).2 (Int.dvd_refl _) i;have h2:g.natAbs∣(f i).natAbs:=Int.natAbs_dvd_natAbs.2 h1;exact Nat.le_trans (Nat.le_of_dvd (by omega) h2) (hb i)
theorem KkK {M:Mx} {D:List Int} (h:Kpd M D) (hb : ∀i k,(eM M i k).natAbs<=128) : ∀z∈D,0<z/\z<=1000000000:=by
 obtain ⟨n,c,r,s,hn,hf,rfl⟩:=h;obtain ⟨hd,hp,hz⟩:=hf.dia hn
 have ht : ∀i j k l,(eM M i k*eM M j l).natAbs<=16384:=λi j k l=>by
  rw [Int.natAbs_mul];exact Nat.le_trans (Nat.mul_le_mul (hb _ _) (hb _ _)) (by decide)
 have hb2 : ∀i j k l,(m2 (eM M) i j k l).natAbs<=32768:=λi j k l=>by
  have h1:=ht i j k l;have h2:=ht i j l k;unfold m2;omega
 have hb3 : ∀i j m k l p,(m3 (eM M) i j m k l p).natAbs<=12582912:=λi j m k l p=>by
  have q : ∀a b c d e f,(eM M a b*m2 (eM M) c d e f).natAbs<=4194304:=λa b c d e f=>by
   rw [Int.natAbs_mul];exact Nat.le_trans (Nat.mul_le_mul (hb _ _) (hb2 _ _ _ _)) (by decide)
  have h1:=q i k j m l p;have h2:=q i l j m k p;have h3:=q i p j m k l;unfold m3;omega
 have n0:=hd.nn 0;have n1:=hd.nn 1;have n2:=hd.nn 2;have g1:=KiF (ι:=Nat×Nat) (f:=λp=>eM M p.1 p.2) (g:=eM s.a 0 0) (λx=>(Iff.intro (λh i k=>h (i,k)) (λh p=>h p.1 p.2):(∀p:Nat×Nat,x∣eM M p.1 p.2)↔X1 x (eM M)).trans ((hf.eqv.e1 x).trans (hd.x1 x))) (λp=>hb _ _);have g2:=KiF (ι:=(Nat×Nat)×(Nat×Nat)) (f:=λp=>m2 (eM M) p.1.1 p.1.2 p.2.1 p.2.2) (g:=eM s.a 0 0*eM s.a 1 1) (λx=>(Iff.intro (λh i j k l=>h ((i,j),(k,l))) (λh p=>h _ _ _ _):(∀p:(Nat×Nat)×(Nat×Nat),x∣m2 (eM M) p.1.1 p.1.2 p.2.1 p.2.2)↔X2 x (eM M)).trans ((hf.eqv.e2 x).trans (hd.x2 x))) (λp=>hb2 _ _ _ _);have g3:=KiF (ι:=(Nat×Nat×Nat)×(Nat×Nat×Nat)) (f:=λp=>m3 (eM M) p.1.1 p.1.2.1 p.1.2.2 p.2.1 p.2.2.1 p.2.2.2) (g:=eM s.a 0 0*(eM s.a 1 1*eM s.a 2 2)) (λx=>(Iff.intro (λh i j m k l p=>h ((i,j,m),(k,l,p))) (λh p=>h _ _ _ _ _ _):(∀p:(Nat×Nat×Nat)×(Nat×Nat×Nat),x∣m3 (eM M) p.1.1 p.1.2.1 p.1.2.2 p.2.1 p.2.2.1 p.2.2.2)↔X3 x (eM M)).trans ((hf.eqv.e3 x).trans (hd.x3 x))) (λp=>hb3 _ _ _ _ _ _);rw [Int.natAbs_mul] at g2 g3;rw [Int.natAbs_mul] at g3;intro z hz';obtain ⟨i,hi,rfl⟩:=List.mem_map.1 hz';have hir:=List.mem_range.1 hi;have hpi:=hp i hir;refine ⟨hpi,?_⟩;have hr3:r<=3:=by have:=hf.rn;omega
 rcases (show i=0\/i=1\/i=2 by omega) with rfl | rfl | rfl
 ·omega
 ·have p0:=hp 0 (by omega);have:(eM s.a 1 1).natAbs<=(eM s.a 0 0).natAbs*(eM s.a 1 1).natAbs:=Nat.le_mul_of_pos_left _ (by omega);omega
 ·have p0:=hp 0 (by omega);have p1:=hp 1 (by omega);have h1:(eM s.a 2 2).natAbs<=(eM s.a 1 1).natAbs*(eM s.a 2 2).natAbs:=Nat.le_mul_of_pos_left _ (by omega);have h2:(eM s.a 1 1).natAbs*(eM s.a 2 2).natAbs<=(eM s.a 0 0).natAbs*((eM s.a 1 1).natAbs*(eM s.a 2 2).natAbs):=Nat.le_mul_of_pos_left _ (by omega);omega
structure SmF (M:Mx):Prop where
 n0:0<M.length
 n3:M.length<=3
 c0:0<KX M
 c3:KX M<=3
 rect:Ku (KX M) M
 ent : ∀i k,(eM M i k).natAbs<128
 low:(∀i k,eM M i k=0) \/ ∃i k,eM M i k≠0/\(eM M i k).natAbs<=9
theorem SmF.mem {M:Mx} (h:SmF M) : ∀r∈M,∀z∈r,z.natAbs<128:=λr hr z hz=>by
 obtain ⟨i,hi,rfl⟩:=List.getElem_of_mem hr;obtain ⟨k,hk,rfl⟩:=List.getElem_of_mem hz;have:=h.ent i k;unfold eM at this;rwa [Ka hi,Ka hk] at this
theorem SmF.check {M:Mx} (h:SmF M):Qr M=0:=by
 unfold Qr;rw [if_neg (by have:=h.n3;omega)];refine Kbb _ M λj hj => ?_
 have h1:=h.rect _ (List.getElem_mem hj);have h2:=h.mem _ (List.getElem_mem hj);have h3:(M.getD 0 []).length=KX M:=rfl;rw [h3];have h4:=h.c3
 have h5:M[j].any grt=false:=by
  rw [List.any_eq_false];intro z hz;have:=h2 z hz;unfold grt;simp only [decide_eq_true_eq];omega
 unfold XN;simp [h1,h5];omega
theorem SmM.smf {M:Mx} (h:SmM M) (h0:0<M.length) (hc:0<KX M):SmF M:=by
 have hb : ∀i k,(eM M i k).natAbs<=9:=λi k=>by
  by_cases hi:i<M.length
  ·by_cases hk:k<M[i].length
   ·have:=h.ent _ (List.getElem_mem hi) _ (List.getElem_mem hk);unfold eM;rw [Ka hi,Ka hk];omega
   ·rw [YM h.rect (by have:=h.rect _ (List.getElem_mem hi);omega)];decide
  ·rw [QU (by omega)];decide
 refine ⟨h0,h.n3,hc,h.c3,h.rect,λi k=>by have:=hb i k;omega,?_⟩
 by_cases hz : ∀i k,eM M i k=0
 ·exact .inl hz
 ·right
  refine Classical.byContradiction λhc=>hz λi k=>Classical.byContradiction λh=>hc ⟨i,k,h,hb i k⟩
theorem SmF.run {M:Mx} (h:SmF M) : ∃f rank fin,Ka0 ED M.length (KX M) f 0 (Xs M (KX M))=some (rank,fin)/\Kkp M.length (KX M) (eM M) rank fin/\BM ED fin.a:=by
 obtain ⟨f,⟨rank,fin⟩,hr⟩:=KkG h.n3 h.c3 h.rect h.ent h.low;obtain ⟨h1,h2⟩:=Kby (A:=eM M) f 0 _ hr (KfJ h.rect) (λi hi=>by omega) (Nat.zero_le _) (Nat.zero_le _) (Eqv.refl _);exact ⟨f,rank,fin,hr,h1,(Kpf h2).1⟩
theorem KpR:2*(4*ED+3)+2<LIM:=by unfold ED;decide
end
section
open Go.RowKit Go.Sort Hnf
theorem Xm {a:Int} (h:a∣1) (h0:0<=a):a=1:=by
 have:=Int.natAbs_dvd_natAbs.2 h;have h2:a.natAbs=1:=Nat.dvd_one.1 this;omega
theorem KhL {v:List Int} (hg : ∀d:Int,(∀z∈v,d∣z)->d∣1) {a b:Int} (h : ∀z∈v,a∣z*b) (h0:a≠0):a∣b:=by
 have hA:0<a.natAbs:=by omega
 obtain ⟨g,hgd⟩ : ∃g,g=Nat.gcd a.natAbs b.natAbs:=⟨_,rfl⟩
 have hg0:0<g:=by rw [hgd];exact Nat.gcd_pos_of_pos_left _ hA
 obtain ⟨a',ha⟩:g∣a.natAbs:=by rw [hgd];exact Nat.gcd_dvd_left _ _
 obtain ⟨b',hb⟩:g∣b.natAbs:=by rw [hgd];exact Nat.gcd_dvd_right _ _
 have hc:Nat.Coprime a' b':=by
  have:=Nat.coprime_div_gcd_div_gcd (m:=a.natAbs) (n:=b.natAbs) (by rw [<-hgd];exact hg0);rw [<-hgd,ha,hb,Nat.mul_div_cancel_left _ hg0,Nat.mul_div_cancel_left _ hg0] at this;exact this
 have h1:((a':Nat):Int)∣1:=hg _ λz hz=>by
  have h2:=Int.natAbs_dvd_natAbs.2 (h z hz);rw [Int.natAbs_mul,ha,hb,show z.natAbs*(g*b')=g*(z.natAbs*b') by rw [Nat.mul_left_comm]] at h2;have h3:=hc.dvd_of_dvd_mul_right (Nat.dvd_of_mul_dvd_mul_left hg0 h2);exact Int.natAbs_dvd_natAbs.1 (by simpa using h3)
 have h2:=Xm h1 (by omega);have h3:a'=1:=by omega
 rw [h3,Nat.mul_one] at ha;exact Int.natAbs_dvd_natAbs.1 ⟨b',by rw [ha,hb]⟩
theorem Keo {u y:V}:Ko [u] y ↔ ∃t:Int,∀i,y i=t*u i:=by
 constructor
 ·intro h
  induction h with
  | zero=>exact ⟨0,λi=>by simp⟩
  | @step v r q _ hr ih =>
   obtain ⟨t,ht⟩:=ih;rw [List.mem_singleton.1 hr];exact ⟨t-q,λi=>by show v i-q*u i=_;rw [ht i,Int.sub_mul]⟩
 ·rintro ⟨t,ht⟩;have h:=Ko.step (M:=[u]) (v:=λ_=>0) (r:=u) (-t) Ko.zero (by simp);have e:y=Hnf.sub (λ_=>0) (-t) u:=funext λi=>by show y i=0 - -t*u i;rw [ht i,Int.neg_mul];omega
  rw [e];exact h
theorem BkM.far {n:Nat} {M:Mx} {v:List Int} (h:BkM n M v) {i:Nat} (hi:n<=i):v.getD i 0=0:=by
 have:=h.vlen;rw [List.getD_eq_getElem?_getD,List.getElem?_eq_none (by omega)];rfl
theorem BkM.line {n:Nat} {M:Mx} {v:List Int} (h:BkM n M v) {y:V} (hy : ∀u∈KF M,Jg n u y=0) : ∀i,i<n->y i*v.getD 0 0=v.getD i 0*y 0:=by
 obtain ⟨s,_,hs⟩:=h.sgn;have hl:=h.len
 have hk : ∀k,k<M.length->Jg n (vr (M.getD k [])) y=0:=λk hk=>hy _ (by
  rw [Ka hk]
  exact List.mem_map.2 ⟨_,List.getElem_mem hk,rfl⟩)
 have he : ∀k i,vr (M.getD k []) i=eM M k i:=λ_ _=>rfl
 rcases h.hn with rfl | rfl
 ·have h0:=hk 0 (by omega);simp only [Jg,KD,he] at h0;intro i hi;rw [hs,hs,Kb2,Kb2,if_pos rfl]
  rcases (show i=0\/i=1 by omega) with rfl | rfl
  ·rw [if_pos rfl];grind
  ·rw [if_neg (by omega),if_pos rfl];grind
 ·have h0:=hk 0 (by omega);have h1:=hk 1 (by omega);simp only [Jg,KD,he] at h0 h1;obtain ⟨m0,m1,m2⟩:=Kc0 M;intro i hi;rw [hs,hs,m0]
  rcases (show i=0\/i=1\/i=2 by omega) with rfl | rfl | rfl
  ·rw [m0];grind
  ·rw [m1];grind
  ·rw [m2];grind
theorem BkM.ker {n:Nat} {M:Mx} {v:List Int} (h:BkM n M v):KaO n (KF M) [v]:=by
 have hn0:0<n:=by have:=h.hn;omega
 refine ⟨⟨[0],⟨λr hr=>by rw [List.mem_singleton.1 hr];exact h.vlen,rfl,λi hi => ?_,λi k h1 h2 => ?_,λi hi j hj => ?_,λi hi => ?_,λi k h1 h2 => ?_⟩⟩,λy => ?_⟩
 ·simp at hi;subst hi;exact hn0
 ·simp at h2;omega
 ·simp at hi;subst hi;simp at hj
 ·simp at hi;subst hi;exact h.pos
 ·simp at h2;omega
 ·have e:KF [v]=[vr v]:=rfl;rw [e,Keo];constructor
  ·rintro ⟨t,ht⟩;refine ⟨λu hu => ?_,λi hi=>by rw [ht];show t*v.getD i 0=0;rw [h.far hi,Int.mul_zero]⟩;obtain ⟨k,hk,rfl⟩:=KmW hu;have h1:=h.orth hk
   have h2:Jg n (vr (M.getD k [])) y=t*KD (λi=>v.getD i 0*eM M k i) n:=by
    unfold Jg;rw [QM (g:=λi=>eM M k i*(t*v.getD i 0)) (λi _=>by rw [ht];rfl)];generalize n=m
    induction m with
    | zero=>simp [KD]
    | succ m ih=>simp only [KD];rw [ih];grind
   rw [h2,h1,Int.mul_zero]
  ·rintro ⟨hy,hf⟩;have hl:=h.line hy;have hp:=h.pos
   obtain ⟨t,ht⟩:=KhL h.gcd (a:=v.getD 0 0) (b:=y 0) (λz hz=>by
    obtain ⟨i,hi,rfl⟩:=List.getElem_of_mem hz;have h1:=hl i (by rw [<-h.vlen];exact hi);rw [Ka hi] at h1
    exact ⟨y i,by rw [<-h1,Int.mul_comm]⟩) (by omega)
   refine ⟨t,λi => ?_⟩
   by_cases hi:i<n
   ·have h1:=hl i hi;rw [ht] at h1;have h2:v.getD 0 0*y i=v.getD 0 0*(t*v.getD i 0):=by grind
    exact Int.eq_of_mul_eq_mul_left (by omega) h2
   ·rw [hf i (by omega)];show 0=t*v.getD i 0;rw [h.far (by omega),Int.mul_zero]
theorem BkM.ker_val {n:Nat} {M K:Mx} {v:List Int} (h:BkM n M v) (hK:KaO n (KF M) K):K=[v]:=hK.unique h.ker λ_=>Iff.rfl
theorem BkM.ones {n:Nat} {M:Mx} {v:List Int} (h:BkM n M v) {c rank:Nat} {s:Dg} (hF:Kkp M.length c (eM M) rank s) : ∀z∈JB rank s.a,z=1:=by
 have hl:=h.len;have hn:=h.hn;obtain ⟨hd,hp,_⟩:=hF.dia (by omega);obtain ⟨sg,hsg,hs⟩:=h.sgn
 have hmem : ∀d:Int,(∀i,i<n->d∣(mnL n M).getD i 0)->d∣1:=λd hd=>h.gcd d λz hz=>by
  obtain ⟨i,hi,rfl⟩:=List.getElem_of_mem hz;have:=hs i;rw [Ka hi] at this;rw [this];exact Int.dvd_trans (hd i (by rw [<-h.vlen];exact hi)) (Int.dvd_mul_left _ _)
 have key:eM s.a 0 0=1/\(M.length=1\/eM s.a 1 1=1):=by
  rcases hn with rfl | rfl
  ·have hx:X1 (eM s.a 0 0) (eM M):=(hF.eqv.e1 _).2 ((hd.x1 _).2 (Int.dvd_refl _));refine ⟨Xm (hmem _ λi hi => ?_) (hd.nn 0),.inl (by omega)⟩;rw [Kb2];split
   ·exact Int.dvd_sub (Int.dvd_zero _) (hx 0 1)
   ·split
    ·exact hx 0 0
    ·exact Int.dvd_zero _
  ·have hx:X2 (eM s.a 0 0*eM s.a 1 1) (eM M):=(hF.eqv.e2 _).2 ((hd.x2 _).2 (Int.dvd_refl _));obtain ⟨m0,m1,m2'⟩:=Kc0 M
   have h1:=hmem _ λi hi=>by
    have e : ∀k l,eM s.a 0 0*eM s.a 1 1∣eM M 0 k*eM M 1 l-eM M 0 l*eM M 1 k:=λk l=>hx 0 1 k l
    rcases (show i=0\/i=1\/i=2 by omega) with rfl | rfl | rfl
    ·rw [m0];exact e 1 2
    ·rw [m1];exact e 2 0
    ·rw [m2'];exact e 0 1
   have a0:=hd.nn 0;have a1:=hd.nn 1;refine ⟨Xm (Int.dvd_trans (Int.dvd_mul_right _ _) h1) a0,.inr (Xm (Int.dvd_trans (Int.dvd_mul_left _ _) h1) a1)⟩
 intro z hz;unfold JB at hz;obtain ⟨i,hi,rfl⟩:=List.mem_map.1 hz;have hi:=List.mem_range.1 hi;have hr:=hF.rn
 rcases (show i=0\/i=1 by omega) with rfl | rfl
 ·exact key.1
 ·rcases key.2 with h1 | h1
  ·omega
  ·exact h1
end
section
open Go.RowKit Go.Sort
theorem BkM.nc {n:Nat} {M:Mx} {v:List Int} (h:BkM n M v):KX M=n:=by
 have hl:=h.len;have hn:=h.hn;have h0:0<M.length:=by omega
 show (M.getD 0 []).length=n;rw [Ka h0];exact h.rect _ (List.getElem_mem h0)
theorem BkM.smM {n:Nat} {M:Mx} {v:List Int} (h:BkM n M v):SmM M:=by
 have hl:=h.len;have hn:=h.hn;exact ⟨by omega,by rw [h.nc];omega,by rw [h.nc];exact h.rect,λr hr z hz=>by have:=h.bd r hr z hz;omega⟩
theorem BkM.smf {n:Nat} {M:Mx} {v:List Int} (h:BkM n M v):SmF M:=by
 have hl:=h.len;have hn:=h.hn;exact h.smM.smf (by omega) (by rw [h.nc];omega)
theorem KkM {n:Nat} {M:Mx} {vl:List Int} (hB:BkM n M vl) {w:World} {v:Value} (hM:KJ w v M) (hL:Laid w) :
  Calls Tryz.prog 29 #[v] w λe w' => ∃u D,e = .returned (.tuple #[u,.int .i64 0])/\KH w.heap.size w' u D/\(∀z∈D,z=1)/\D.length<=3/\Ext w w':=by
 have h:=hB.smf;obtain ⟨f,rank,fin,hr,hf,hBM⟩:=h.run;refine (KgD hM h.check h.n0 rfl h.c0 hr hf.rn hf.rc hBM KpR (by unfold ED;omega) hL).mono ?_;rintro e w' ⟨hp,hE⟩;have hfac:Kpd M (JB rank fin.a):=⟨_,_,rank,fin,h.n3,hf,rfl⟩
 have hs:=KkK hfac (λi k=>by have:=h.ent i k;omega)
 have hsB:QK (JB rank fin.a)=true:=by
  unfold QK;refine List.all_eq_true.2 λz hz => ?_
  have:=hs z hz;unfold grt;simp only [Bool.not_eq_true',decide_eq_false_iff_not];omega
 rw [if_pos hsB] at hp;obtain ⟨u,rfl,hu⟩:=hp;exact ⟨u,_,rfl,hu,hB.ones hf,by rw [XR];have:=hf.rn;have:=h.n3;omega,hE⟩
end
section
open Hnf
def T3 (m:Nat->Nat->Int) (y:Nat->Int) (j:Nat):Int:=y 0*m 0 j+y 1*m 1 j+y 2*m 2 j
def v3 (a b c:Int):Nat->Int:=λi=>if i=0 then a else if i=1 then b else if i=2 then c else 0
theorem Kgt (a b c:Int):v3 a b c 0=a:=rfl
theorem Kgu (a b c:Int):v3 a b c 1=b:=rfl
theorem Kjg (a b c:Int):v3 a b c 2=c:=rfl
theorem Kic (a b c:Int) {i:Nat} (h:3<=i):v3 a b c i=0:=by unfold v3;rw [if_neg (by omega),if_neg (by omega),if_neg (by omega)]
end
section
open Go.RowKit Go.Sort
open Lib (hid)
theorem Kaz {F:Mx} {x:List Int} {E:Nat} (hP : ∀r∈F,pv r<r.length) (hF : ∀r∈F,∀z∈r,z.natAbs<2^E) (hx : ∀z∈x,z.natAbs<2^E) : ∀i,i<=F.length -> ∀z∈Qw (F.take i) x,z.natAbs<2^(E+(E+1)*i)
 | 0,_=>by simpa [Qw] using hx
 | i+1,h=>by
  have ih:=Kaz hP hF hx i (by omega);have hpi:=hP _ (List.getElem_mem (show i<F.length by omega));rw [Kcc (by omega),Ka (show i<F.length by omega)];have p0:0<2^(E+(E+1)*i):=Nat.pow_pos (by omega);have hq:=KfK (Kfs hpi) p0 ih;generalize XG F[i] (Qw (F.take i) x)=q at *;refine Kaa q (Q:=λz=>z.natAbs<2^(E+(E+1)*i)) (R:=λz=>z.natAbs<2^E) ?_ ?_ _ _ ih (λz hz=>hF _ (List.getElem_mem (by omega)) z hz)
  ·intro z hz;exact Nat.lt_of_lt_of_le hz (Nat.pow_le_pow_right (by omega) (by have:(E+1)*(i+1)=(E+1)*i+(E+1):=Nat.mul_succ _ _;omega))
  ·intro y z hy hz
   have h1:(q*z).natAbs<=2^(E+(E+1)*i)*2^E:=by
    rw [Int.natAbs_mul];exact Nat.mul_le_mul (Nat.le_of_lt hq) (Nat.le_of_lt hz)
   have e:2^(E+(E+1)*(i+1))=2^(E+(E+1)*i)*2^E*2:=by
    rw [show E+(E+1)*(i+1)=(E+(E+1)*i)+E+1 by have:(E+1)*(i+1)=(E+1)*i+(E+1):=Nat.mul_succ _ _;omega,Nat.pow_succ,Nat.pow_add]
   have h2:2^(E+(E+1)*i)<=2^(E+(E+1)*i)*2^E:=Nat.le_mul_of_pos_right _ (Nat.pow_pos (by omega));rw [e];have hy':y.natAbs<2^(E+(E+1)*i):=hy;omega
theorem Ki4 {w:World} {vx:Value} {x:List Int} (hx:Z0 w vx x) (hn:0<x.length) (hl:x.length<=1000000) :
  Calls Tryz.prog 111 #[vx] w λe w' => ∃g cap,e = .returned (slv g x.length cap)/\Kd 45 w.heap.size w' g cap (ss x)/\Ext w w':=by
 obtain ⟨sa,gb,go,cp,rfl,hcp,hS⟩:=hx;obtain rfl:=hS.addr (by rw [Kx];exact hn);obtain ⟨s0,hs,hy0,hy1,hy2⟩:=info_parts Tryz.infoStr
 have HNews:=hid (show ∀(j:Nat) (u:Value),(ss x)[j]? = some u->(w.alloc (.cells #[] 45)).cell? ((⟨gb,go,none⟩:Addr).add j)=some u from λj u hj=>by
  have h2:=((Ext.refl w).alloc (.cells #[] 45)).cell (hS.cell j u hj)
  simpa [Addr.add_lit] using h2)
 have HOne:=hid (show ∀u∈ss x,u.oneCell'=true from λu hu=>by
  obtain ⟨y,_,rfl⟩:=List.mem_map.1 hu
  rfl)
 have hO:Kd 45 w.heap.size (w.alloc (.cells #[] 45)) w.heap.size 0 []:=Kd.of (Nat.le_refl _) (Kbj _ _) (Nat.le_refl _) (Nat.zero_le _) rfl rfl;have HO:=hid hO;have hE:=(Ext.refl w).alloc (.cells #[] 45);have knil:=λ(w:World) (a:Option Addr) (n c:Nat)=>Lib.run_eql_slice_nil (P:=Tryz.prog) w 108 45 a n c 0 0 Tryz.underlying108
 clear hO hS
 go_enter Tryz.func111,Tryz.ntmps111
 go_wp2_with (at_builtin;refine wpList_append_lies _ rfl _ _ 108 rfl w.heap.size 45 s0 _ 1 16 Tryz.underlying108 hs hy0 hy1 hy2 rfl (by omega) (slv w.heap.size 0 0) 0 [] rfl HO.out ⟨gb,go,none⟩ x.length cp (ss x) rfl (by rw [Kx];omega) HNews.out HOne.out hn (by unfold maxLen;omega) (by omega) (by simp) (w.heap.size+1) (by simp) ?_;intro gg cap6 w6 hown6 hgrow6 hat6 hlt6)
 have hE6:Ext w w6:=Ext.mk' (Below.grown hE hgrow6 hE.size (λq hq=>(World.ownsRow.lt HO.out q hq).1))
 have HR:=hid (show Kd 45 w.heap.size w6 gg cap6 (ss x) by
  unfold Kd;rw [Kx];simpa using hown6)
 clear hown6 hgrow6 hat6 hlt6;go_wp2_with fail;go_ret;exact ⟨gg,cap6,by simp,HR.out,hE6⟩
theorem KcK {w:World} {vF vx:Value} {F:Mx} {x:List Int} {E m:Nat} (hF:XK w vF F) (hRt:Ku m F) (hx:Z0 w vx x) (hxl:x.length=m) (hm:0<m) (hm2:m<=1000000) (hl:F.length<=1000000) (hP : ∀r∈F,pv r<m)
  (hbF : ∀r∈F,∀z∈r,z.natAbs<2^E) (hbx : ∀z∈x,z.natAbs<2^E) (hE:2*(E+(E+1)*F.length)+2<LIM) (hL:Laid w) :
  Calls Tryz.prog 67 #[vF,vx] w λe w' => ∃g cap,e = .returned (slv g m cap)/\Kd 45 w.heap.size w' g cap (ss (Qw F x))/\Ext w w':=by
 have hcl:=hid (Ki4 hx (by omega) (by omega));rw [hxl] at hcl;obtain ⟨sa,gb,go,cap,vs,rfl,hcap,hvl,hS,hr⟩:=hF;have HS:=hid hS;have HV:=hid hvl;have HR:=hid hr;have HRt:=hid hRt;have HP:=hid hP;have HbF:=hid hbF;have Hbits:=hid (Kaz (λr hr=>by rw [hRt r hr];exact hP r hr) hbF hbx);have HE:=hid hE;have HL:=hid hL;have Hxl:=hid hxl;clear hS hvl hr hRt hP hbF hbx hE hL hx hxl;obtain ⟨E2,hE2⟩ : ∃E2,E2=E+(E+1)*F.length:=⟨_,rfl⟩
 have HE2:=hid hE2;clear hE2
 go_enter Tryz.func67,Tryz.ntmps67
 go_wp2_with fail;refine hcl.out.mono ?_;rintro e w1 ⟨gx,cx,rfl,hX1,hE1⟩;have hgl:=hX1.lt;go_wp2_with fail
 go_loopw [15] (λidx wr => ∃i:Nat,i<=F.length/\idx = .int .i64 i/\Hid (Kd 45 w.heap.size wr gx cx (ss (Qw (F.take i) x)))/\Ext w wr) (λidx _=>F.length-(intOf idx).toNat)
 case atStart=>exact ⟨0,by omega,by go_num,hid hX1,hE1⟩
 case round =>
  obtain ⟨i,hi',rfl,hX,hEX⟩:=hrel;generalize wr=X at *
  by_cases hlt:i<F.length
  ·have hii:(i:Int)<(F.length:Int):=by omega
   obtain rfl:=HS.out.addr (by rw [HV.out];omega);obtain ⟨sr,br,or,cr,hrow,hrc,hSr⟩:=XK.row HS.out HV.out HR.out hlt;have hrl:F[i].length=m:=HRt.out _ (List.getElem_mem hlt);have hpm:=HP.out _ (List.getElem_mem hlt);have hbr:=HbF.out _ (List.getElem_mem hlt);have hstep:=Kcc hlt x;rw [Ka hlt] at hstep;obtain ⟨r,hr⟩ : ∃r,r=F[i]:=⟨_,rfl⟩
   rw [<-hr] at hrow hrc hSr hrl hpm hbr hstep;rw [hrl] at hrow hrc;have hrow':=hEX.cell hrow;obtain rfl:=hSr.addr (by simp;omega);have hld:=hid (KaC (w:=X) (cap:=cr) (hSr.ext hEX) (by omega));rw [hrl] at hld;have hyb:=Hbits.out i hi';have hyl:(Qw (F.take i) x).length=m:=by rw [YG,Hxl.out]
   obtain ⟨y,hy⟩ : ∃y,y=Qw (F.take i) x:=⟨_,rfl⟩
   rw [<-hy] at hX hyb hyl hstep;have hle:E+(E+1)*i<=E2:=by rw [HE2.out];have:=Nat.mul_le_mul_left (E+1) hi';omega
   have hyb2 : ∀z∈y,z.natAbs<2^E2:=λz hz=>Nat.lt_of_lt_of_le (hyb z hz) (Nat.pow_le_pow_right (by omega) hle)
   have hrb2 : ∀z∈r,z.natAbs<2^E2:=λz hz=>Nat.lt_of_lt_of_le (hbr z hz) (Nat.pow_le_pow_right (by omega) (by rw [HE2.out];omega))
   have hrp:r.getD (pv r) 0≠0:=Kfs (by omega);have hq2:(XG r y).natAbs<2^E2:=KfK hrp (Nat.pow_pos (by omega)) hyb2;have hEL:2*E2+2<LIM:=by rw [HE2.out];exact HE.out
   have cq:=hX.out.cell (j:=pv r) (by rw [Kx,hyl];exact hpm);have hSrX:=hSr.ext hEX
   have cr0:=hSrX.cell (pv r) (I (r.getD (pv r) 0)) (by
    have h6:pv r<(ss r).length:=by rw [Kx,hrl];exact hpm
    rw [List.getElem?_eq_getElem h6,KhX (by omega) h6])
   rw [KhX (by omega)] at cq
   have hdy:nd (y.getD (pv r) 0)<LIM:=by
    rw [Ka (by omega)];have:=Kv (hyb2 _ (List.getElem_mem (by omega:pv r<y.length)));omega
   have hdr:nd (r.getD (pv r) 0)<LIM:=by
    rw [Ka (by omega)];have:=Kv (hrb2 _ (List.getElem_mem (by omega:pv r<r.length)));omega
   have Hdm:=hid (λW (hW:Ext w W)=>Qf (a:=y.getD (pv r) 0) (b:=r.getD (pv r) 0) (w:=W) hdy hdr hrp (HL.out.ext hW))
   have hne:br≠gx:=by
    have h7:=hSr.lt (by rw [Kx];omega);omega
   have Htk:=hid (λW (hW:Ext X W)=>by
    have h8:=KaD (w0:=w) (w:=W) (ga:=gx) (ca:=cx) (k:=XG r y) (cb:=cr) (hX.out.ext hW) (hSrX.ext hW) hne (by rw [hrl,hyl]) (by omega) (J0 hyb2 hrb2 hq2 hEL) HL.out (hEX.trans hW);rw [hyl] at h8
    exact h8)
   obtain ⟨p,hp⟩ : ∃p,p=pv r:=⟨_,rfl⟩
   obtain ⟨a,ha⟩ : ∃a,a=y.getD p 0:=⟨_,rfl⟩
   obtain ⟨b,hb⟩ : ∃b,b=r.getD p 0:=⟨_,rfl⟩
   have hqe:XG r y=a.fdiv b:=by rw [ha,hb,hp];rfl
   rw [<-hp] at cq cr0 hpm hld Hdm;rw [<-ha] at cq Hdm;rw [<-hb] at cr0 Hdm;rw [hqe] at Htk hstep;have Hstep:=hid hstep;have hpmI:(p:Int)<(m:Int):=by omega
   have HX:=hX;clear hr hrow hrc hSr hrl hbr hyb hyl hy hle hyb2 hrb2 hrp hq2 hEL hSrX hdy hdr hne hp ha hb hqe hstep hX;go_wp2_with fail;refine hld.out.mono ?_;rintro e W1 ⟨rfl,hW1⟩;have k1:=cell_regrown (hW1.cell cq);have k2:=cell_regrown (hW1.cell cr0);have bD:=hid (Qn (w:=W1) (λW h=>Hdm.out W (hEX.trans (hW1.trans h))));clear hld;go_wp2_with fail;refine wp_region_quiet_below (by kernel_rfl) (by kernel_rfl) ?_
   repeat (quiet_step (exact bD.out _ _))
   refine wpQuiet_nil ?_;intro _ hw';obtain ⟨⟨dq,osq⟩,hw''⟩:=hw';subst hw'';have hE6:=hW1.trans (Kk W1 dq osq);clear bD k1 k2 Hdm;generalize hW6:grow (redrawn _ _) _=W6 at *;clear hW6;go_wp2_with fail;refine (Htk.out _ hE6).mono ?_;rintro e W7 ⟨rfl,hX7,hG7⟩;rw [<-Hstep.out] at hX7;have hE7:=Kb (hEX.trans hE6) hG7 hgl.1;have HX7:=hid hX7;clear hX7 hG7 Htk;go_wp2_with fail;go_roundw
   case rel=>exact ⟨i+1,by omega,by go_num,HX7,hE7⟩
   case measure=>simp [intOf]<;>omega
  ·have hie:i=F.length:=by omega
   subst hie;go_wp2_with fail;go_ret;have h1:=hX.out;rw [List.take_length] at h1;exact ⟨gx,cx,rfl,h1,hEX⟩
def XL (M:Mx) (b:List Int):Int:=if Qr M=0 then if QW b=0 then if 0<M.length/\b.length≠KX M then 5 else 0 else QW b else Qr M
theorem Kny {M:Mx} {b:List Int} (h:XL M b=0):Qr M=0/\QW b=0/\(0<M.length->b.length=KX M):=by
 unfold XL at h;split at h
 ·split at h
  ·split at h
   ·cases h
   ·rename_i h1 h2 h3
    exact ⟨h1,h2,λh5=>Classical.byContradiction λh6=>h3 ⟨h5,h6⟩⟩
  ·exact absurd h ‹_›
 ·exact absurd h ‹_›
theorem Klp {w:World} {vm vb:Value} {M:Mx} {b:List Int} (hM:KJ w vm M) (hb:KT w vb b) :
  Calls Tryz.prog 61 #[vm,vb] w λe w'=>e = .returned (.int .i64 (XL M b))/\Ext w w':=by
 have hck:=hid (Xf hM);have hrk:=hid (λW (hW:Ext w W)=>Kbx (hb.ext hW));obtain ⟨sr,br,or,cr,hbv,hbc,hSb⟩:=hb;obtain ⟨sa,gb,go,cap,vs,hmv,hcap,hvl,hS,hr⟩:=hM
 by_cases h0:Qr M=0
 ·rw [h0] at hck
  by_cases h1:QW b=0
  ·rw [h1] at hrk
   by_cases hM0:M.length=0
   ·have he:XL M b=0:=by unfold XL;rw [if_pos h0,if_pos h1,if_neg (by omega)]
    rw [he];subst hmv hbv;rw [hM0] at hck ⊢;clear hS hvl hr hSb h0 h1 he hM0
    go_enter Tryz.func61,Tryz.ntmps61
    go_wp2_with fail;refine hck.out.mono ?_;rintro e w1 ⟨rfl,hE1⟩;go_wp2_with fail;refine (hrk.out _ hE1).mono ?_;rintro e w2 ⟨rfl,hE2⟩;go_wp2_with fail;go_ret;exact ⟨rfl,hE1.trans hE2⟩
   ·have hMp:(0:Int)<(M.length:Int):=by omega
    obtain ⟨s0,c0,rfl,hrow⟩:=Kk4 hS hvl hr (by omega);subst hmv hbv
    by_cases hl:b.length=KX M
    ·have he:XL M b=0:=by unfold XL;rw [if_pos h0,if_pos h1,if_neg (by omega)]
     rw [he];rw [<-hl] at hrow;clear hS hvl hr hSb h0 h1 he hM0 hl
     go_enter Tryz.func61,Tryz.ntmps61
     go_wp2_with fail;refine hck.out.mono ?_;rintro e w1 ⟨rfl,hE1⟩;go_wp2_with fail;refine (hrk.out _ hE1).mono ?_;rintro e w2 ⟨rfl,hE2⟩;have hrow2:=(hE1.trans hE2).cell hrow;go_wp2_with fail;go_ret;exact ⟨rfl,hE1.trans hE2⟩
    ·have he:XL M b=5:=by unfold XL;rw [if_pos h0,if_pos h1,if_pos ⟨by omega,hl⟩]
     have hlb:((b.length:Int)==(KX M:Int))=false:=beq_eq_false_iff_ne.2 (by omega);have hlb2:((b.length:Int) != (KX M:Int))=true:=by simp [bne,hlb]
     have hlI : ¬(b.length:Int)=(KX M:Int):=by omega
     rw [he];clear hS hvl hr hSb h0 h1 he hM0
     go_enter Tryz.func61,Tryz.ntmps61
     go_wp2_with fail;refine hck.out.mono ?_;rintro e w1 ⟨rfl,hE1⟩;go_wp2_with fail;refine (hrk.out _ hE1).mono ?_;rintro e w2 ⟨rfl,hE2⟩;have hrow2:=(hE1.trans hE2).cell hrow;go_wp2_with fail;go_ret;exact ⟨rfl,hE1.trans hE2⟩
  ·obtain ⟨q,hq⟩ : ∃q,q=QW b:=⟨_,rfl⟩
   have he:XL M b=q:=by unfold XL;rw [if_pos h0,if_neg h1,hq]
   have hqb:(q==0)=false:=beq_eq_false_iff_ne.2 (by rw [hq];exact h1);have hqb2:(q != 0)=true:=by simp [bne,hqb]
   rw [he];rw [<-hq] at hrk;subst hmv hbv;clear hS hvl hr hSb h0 h1 he hq
   go_enter Tryz.func61,Tryz.ntmps61
   go_wp2_with fail;refine hck.out.mono ?_;rintro e w1 ⟨rfl,hE1⟩;go_wp2_with fail;refine (hrk.out _ hE1).mono ?_;rintro e w2 ⟨rfl,hE2⟩;go_wp2_with fail;go_ret;exact ⟨rfl,hE1.trans hE2⟩
 ·obtain ⟨q,hq⟩ : ∃q,q=Qr M:=⟨_,rfl⟩
  have he:XL M b=q:=by unfold XL;rw [if_neg h0,hq]
  have hqb:(q==0)=false:=beq_eq_false_iff_ne.2 (by rw [hq];exact h0);have hqb2:(q != 0)=true:=by simp [bne,hqb]
  rw [he];rw [<-hq] at hck;subst hmv hbv;clear hS hvl hr hSb h0 he hq
  go_enter Tryz.func61,Tryz.ntmps61
  go_wp2_with fail;refine hck.out.mono ?_;rintro e w1 ⟨rfl,hE1⟩;go_wp2_with fail;go_ret;exact ⟨rfl,hE1⟩
end
end Go.Proofs.YtdmaofimeknkbaaGreatDoor
