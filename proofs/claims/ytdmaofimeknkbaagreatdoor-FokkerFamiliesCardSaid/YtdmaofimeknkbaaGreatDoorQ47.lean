/- Part 47 of the proof of the claim: contracts of the functions that it reaches, and plain laws; no condition. -/
import Derived.Test.YtdmaofimeknkbaaGreatDoorQ46
import Derived.Test.YtdmaofimeknkbaaGreatDoorQ42
import Derived.Test.YtdmaofimeknkbaaGreatDoorQ33
import Derived.Test.YtdmaofimeknkbaaGreatDoorQ45
import Derived.Test.YtdmaofimeknkbaaGreatDoorQ44
set_option maxRecDepth 100000
set_option maxHeartbeats 20000000
namespace Go.Proofs.YtdmaofimeknkbaaGreatDoor
section
open Go.RowKit Go.Sort
open Lib (hid)
theorem EuX.one {v:List Int} {n:Nat} (hn:0<n):EuX v (Xh n 0) n 1 (v.getD 0 0):=by
 refine ⟨by simp,λt ht => ?_,?_,λt ht => ?_⟩
 ·rw [Xt hn,if_neg (by omega)]
 ·rw [Kab (k:=0) hn (λi _ h=>by rw [Xt hn,if_neg h];omega),Xt hn,if_pos rfl];omega
 ·obtain rfl:t=0:=by omega
  exact Int.dvd_refl _
theorem Kqh {x:List Int} {s:Int} {k A B:Nat} (hx : ∀t,(x.getD t 0).natAbs<=A) (hs:s.natAbs<=B) (hB:1<=B) (t:Nat):((pfM x s k).getD t 0).natAbs<=A*B:=by
 have h0:=hx t;have h1:A*1<=A*B:=Nat.mul_le_mul_left _ hB
 by_cases h:t<x.length
 ·rw [Xb h];split
  ·rw [Int.natAbs_mul];exact Nat.mul_le_mul h0 hs
  ·omega
 ·rw [List.getD_eq_getElem?_getD,List.getElem?_eq_none (by simpa using h)];simp
theorem KoX {x:List Int} {z:Int} {k A:Nat} (hx : ∀t,(x.getD t 0).natAbs<=A) (hz:z.natAbs<=A) (t:Nat):((x.set k z).getD t 0).natAbs<=A:=by
 rw [List.getD_eq_getElem?_getD,List.getElem?_set];split
 ·split
  ·exact hz
  ·simp
 ·have:=hx t;rw [List.getD_eq_getElem?_getD] at this;exact this
theorem Ko0 {v x:List Int} {n:Nat} {k g:Int} (hx:x.length=n) (h:KD (λi=>v.getD i 0*x.getD i 0) n=g):KD (λi=>v.getD i 0*(pfM x k n).getD i 0) n=k*g:=by
 rw [QM (g:=λi=>k*(v.getD i 0*x.getD i 0)) (λi hi=>by rw [Xb (by omega),if_pos hi];grind),KbD,h]
theorem Kd1 {B:Nat} {w:World} {g c:Nat} {x:List Int} (h:Kd 3 B w g c (is x)) {k:Nat} (hk:k<x.length):w.cell? ⟨g,k,none⟩=some (.int .i64 (x.getD k 0)):=by
 rw [h.cell (j:=k) (by simpa using hk),Ka hk];simp [is]
theorem Klt {B g n:Nat} {w:World} (h:Kd 3 B w g n ((is (List.replicate n 0)).set 0 (.int .i64 1))):Kd 3 B w g n (is (Xh n 0)):=by
 rw [<-YO] at h;exact h
def KlS (w:World) (n k:Nat) (v:List Int) (e:Ending) (w':World):Prop :=
 ∃(g c:Nat) (x:List Int),e = .returned (slv g n c)/\Kd 3 w.heap.size w' g c (is x)/\x.length=n/\KD (λi=>v.getD i 0*x.getD i 0) n=k/\(∀t,(x.getD t 0).natAbs<=1000000)/\Ext w w'
theorem KhY {w:World} {n cv k:Nat} {sv:Option Addr} {v:List Int} (hn:n=2\/n=3) (hv:KT w (.slice sv n cv) v) (hvl:v.length=n) (hvb : ∀i,(v.getD i 0).natAbs<=128) (hpos:0<v.getD 0 0) (hgcd : ∀d:Int,(∀z∈v,d∣z)->d∣1) (hk:k<=20) :
  Calls Tryz.prog 23 #[.slice sv n cv,.int .i64 k] w (KlS w n k v):=by
 have hn0:0<n:=by omega
 have hn3:n<=3:=by omega
 obtain ⟨i0,hi,hz0,hz1,hz2⟩:=info_parts Tryz.infoInt;obtain ⟨sv',gv,ov,cv',ev,hcv,hSv⟩:=hv;obtain ⟨rfl,-,rfl⟩:sv=sv'/\n=v.length/\cv=cv':=by injection ev with e1 e2 e3;exact ⟨e1,e2,e3⟩
 rw [hvl] at hcv;obtain rfl:=hSv.addr (by rw [Kq,hvl];exact hn0);have Hv:=hid (λi (hi:i<n)=>hSv.cell i (.int .i64 (v.getD i 0)) (by rw [Qg (show i<v.length by omega),Ka (show i<v.length by omega)]));have Hvb:=hid hvb;have Hgcd:=hid hgcd;have Hvl:=hid hvl;obtain ⟨v0,hv0⟩ : ∃v0,v0=v.getD 0 0:=⟨_,rfl⟩
 have x0:=Hv.out 0 hn0;rw [Nat.add_zero,<-hv0] at x0;have HX0:=hid (show EuX v (Xh n 0) n 1 v0 by rw [hv0];exact EuX.one hn0);have hv0b:0<v0/\v0<=128:=by have:=hvb 0;rw [<-hv0] at this hpos;omega
 have hn0i:(0:Int)<(n:Int):=by omega
 clear hSv hvb hgcd hpos hv0 ev hn hvl
 go_enter Tryz.func23,Tryz.ntmps23
 go_upto_region 2 with (at_make;refine wpList_make_full _ rfl _ _ 38 rfl w.heap.size 3 i0 (.int .i64 0) 1 Tryz.underlying38 hi hz0 hz1 .i64 .i64 _ _ n rfl rfl (by omega) (by omega) (by rw [hz2];omega) (by unfold maxLen;omega) (Nat.le_refl _) ?_;intro w1 hown1 hgrow1)
 have hE1:Ext w w1:=KR hgrow1;obtain ⟨g,hg⟩ : ∃g,g=w.heap.size:=⟨_,rfl⟩
 have hR1:Kd 3 w.heap.size w1 w.heap.size n (is (List.replicate n 0)):=J7 (KbO hown1) (by simp);rw [<-hg] at hR1 ⊢;have hgle:w.heap.size<=g:=by omega
 have x0:=hE1.cell x0
 have k0:w1.cell? ⟨g,0,none⟩=some (.int .i64 0):=by
  rw [hR1.cell (j:=0) (by simpa using hn0)];simp [is]
 have f0:=hR1.frozen 0;obtain ⟨hs2,hg2⟩:=hR1.set 0 (.int .i64 1);have HR2:=hid ((Klt hs2).mono hgle);have HE2:=hid (Kb hE1 hg2 hgle);clear hown1 hgrow1 hR1 hg hs2 hg2 hi hz0 hz1 hz2;go_wp2_with fail
 go_loopw [6,7] (λgv' iv wr => ∃(i:Nat) (a:Int) (x:List Int),1<=i/\i<=n/\iv = .int .i64 i/\gv' = .int .i64 a/\Hid (EuX v x n i a)/\0<a/\a<=128/\Hid (∀t,(x.getD t 0).natAbs<=129^(i-1))/\Hid (Kd 3 w.heap.size wr g n (is x))/\Ext w wr) (λ_ iv _=>n-(intOf iv).toNat)
 case atStart=>exact ⟨1,v0,Xh n 0,by omega,by omega,by go_num,rfl,HX0,hv0b.1,hv0b.2,hid (λt=>by rw [Xt hn0];split<;>simp),HR2,HE2.out⟩
 case round =>
  clear HX0 HR2 HE2 hE1 k0 f0 x0;obtain ⟨i,a,x,hi1,hin',rfl,rfl,hX,ha0,ha1,hxb,hO,hE⟩:=hrel;generalize wr=X at *
  by_cases hin:i<n
  ·have hii:(i:Int)<(n:Int):=by omega
   obtain ⟨vi,hvi⟩ : ∃vi,vi=v.getD i 0:=⟨_,rfl⟩
   have y0:=hE.cell (Hv.out i hin);rw [<-hvi] at y0;have hvib:vi.natAbs<=128:=by rw [hvi];exact Hvb.out i
   have j0:=cell_regrown y0;have hI0:=hid (EuI.start (g:=a) (v:=vi) (by omega));have Hvi:=hid hvi;clear hvi;go_wp2_with fail
   go_quiet (fail)
   go_wp2_with fail
   go_loopw [8,9,10,11,12,13] (λav bv sv tv pv qv wr => ∃a' b s t p q:Int,av = .int .i64 a'/\bv = .int .i64 b/\sv = .int .i64 s/\tv = .int .i64 t/\pv = .int .i64 p/\qv = .int .i64 q/\Hid (EuI a vi a' b s t p q)/\Hid (Kd 3 w.heap.size wr g n (is x))/\Ext w wr) (λ_ bv _ _ _ _ _=>(intOf bv).natAbs)
   case atStart=>exact ⟨a,vi,1,0,0,1,rfl,rfl,rfl,rfl,rfl,rfl,hI0,hid (hO.out.ext ((Ext.refl X).drewN _)),hE.drewN _⟩
   case round =>
    clear hI0 hO hE y0 j0;obtain ⟨a',b,s,t,p,q,rfl,rfl,rfl,rfl,rfl,rfl,hI,hO,hE⟩:=hrel;generalize wr=Y at *
    by_cases hb0:b=0
    ·subst hb0;obtain ⟨e1,e2,e3,e4,e5,e6,e7⟩:=hI.out.fin
     have hle:a'.natAbs<=128:=by
      have:=Int.natAbs_dvd_natAbs.2 e2;have:=Nat.le_of_dvd (by omega) this;omega
     have E1:=hid e1;have E2:=hid e2;have E3:=hid e3;clear e1 e2 e3 e7 hI;go_upto_if 60 with fail
     go_cut [8,10,11] from 59 to 66 (λav sv tv wx => ∃a' s t:Int,av = .int .i64 a'/\sv = .int .i64 s/\tv = .int .i64 t/\Hid (s*a+t*vi=a')/\Hid (a'∣a)/\Hid (a'∣vi)/\0<a'/\a'<=128/\s.natAbs<=129/\t.natAbs<=128/\Hid (Kd 3 w.heap.size wx g n (is x))/\Ext w wx)
     case first =>
      by_cases hneg:a'<0
      ·have m1:IntKind.i64.wrap (0-a')=0-a':=IntWalk.i64_in _ (by omega);have m2:IntKind.i64.wrap (0-s)=0-s:=IntWalk.i64_in _ (by omega);have m3:IntKind.i64.wrap (0-t)=0-t:=IntWalk.i64_in _ (by omega);go_wp2_with fail;go_meet;exact ⟨-a',-s,-t,by simp,by simp,by simp,hid (by rw [<-E1.out];grind),hid (Int.neg_dvd.2 E2.out),hid (Int.neg_dvd.2 E3.out),by omega,by omega,by omega,by omega,hO,hE⟩
      ·go_wp2_with fail;go_meet;exact ⟨a',s,t,rfl,rfl,rfl,E1,E2,E3,by omega,by omega,by omega,by omega,hO,hE⟩
     case rest =>
      clear E1 E2 E3 e4 e5 e6 hle hO hE;obtain ⟨a',s,t,rfl,rfl,rfl,E1,E2,E3,hp0,hp1,hs,ht,hO,hE⟩:=hcut;generalize wc=Z at *;have hNX:=hid (hX.out.next hin (s:=s) (t:=t) (a:=a') (by rw [<-Hvi.out];exact E1.out) E2.out (by rw [<-Hvi.out];exact E3.out));have hxl:=hX.out.len;have HXl:=hid hxl;clear hxl;go_wp2_with fail
      go_loopw [15] (λkv wr => ∃j:Nat,j<=i/\kv = .int .i64 j/\Hid (Kd 3 w.heap.size wr g n (is (pfM x s j)))/\Ext w wr) (λkv _=>i-(intOf kv).toNat)
      case atStart=>exact ⟨0,by omega,by go_num,hid (by rw [KhG];exact hO.out),hE⟩
      case round =>
       clear hO hE;obtain ⟨j,hj,rfl,hO,hE⟩:=hrel;generalize wr=U at *
       by_cases hji:j<i
       ·have hjii:(j:Int)<(i:Int):=by omega
        have hjn:j<n:=by omega
        have hjni:(j:Int)<(n:Int):=by omega
        have hjx:j<x.length:=by rw [HXl.out];exact hjn
        have c0:=Kd1 hO.out (k:=j) (by rw [Yn];exact hjx);rw [show (pfM x s j).getD j 0=x.getD j 0 by rw [Xb hjx,if_neg (by omega)]] at c0;have hst:=hid (show (is (pfM x s j)).set j (.int .i64 (x.getD j 0*s))=is (pfM x s (j+1)) by rw [<-YO,KhF]);have hzb:=hxb.out j;obtain ⟨z,hz⟩ : ∃z,z=x.getD j 0:=⟨_,rfl⟩
        rw [<-hz] at c0 hst hzb;have hzs:(z*s).natAbs<=129^(i-1)*129:=by rw [Int.natAbs_mul];exact Nat.mul_le_mul hzb hs
        have h2:129^(i-1)<=129^1:=Nat.pow_le_pow_right (by omega) (by omega);have m1:IntKind.i64.wrap (z*s)=z*s:=IntWalk.i64_in _ (by omega);have f0:=hO.out.frozen j;obtain ⟨s1,g1⟩:=hO.out.set j (.int .i64 (z*s));rw [hst.out] at s1;have HS:=hid s1;have HE:=hid (Kb hE g1 hO.out.lt.1);clear s1 g1 hz hjx hO hE;go_wp2_with fail;go_roundw
        case rel=>exact ⟨j+1,by omega,by go_num,HS,HE.out⟩
        case measure=>simp [intOf]<;>omega
       ·obtain rfl:j=i:=by omega
        have c0:=Kd1 hO.out (k:=j) (by rw [Yn,HXl.out];exact hin);have f0:=hO.out.frozen j;obtain ⟨s1,g1⟩:=hO.out.set j (.int .i64 t);rw [<-YO] at s1;have HS:=hid s1;have HE:=hid (Kb hE g1 hO.out.lt.1)
        have HB:=hid (show ∀r,(((pfM x s j).set j t).getD r 0).natAbs<=129^j from λr=>by
         have h1:129^j=129^(j-1)*129:=by rw [<-Nat.pow_succ,show (j-1).succ=j by omega]
         rw [h1];refine KoX (λt=>Kqh hxb.out hs (by omega) t) ?_ r;have:1<=129^(j-1):=Nat.pos_of_ne_zero (by simp);have:1*129<=129^(j-1)*129:=Nat.mul_le_mul_right _ this
         omega)
        clear s1 g1 hO hE;go_wp2_with fail;go_roundw
        case rel=>exact ⟨j+1,a',(pfM x s j).set j t,by omega,by omega,by go_num,rfl,hNX,hp0,hp1,HB,HS,HE.out⟩
        case measure=>simp [intOf]<;>omega
    ·obtain ⟨b1,b2,b3,b4,b5,b6,b7,b8,b9,b10⟩:=hI.out.small hb0 (by omega) (by omega);obtain ⟨_,_,_,_,_,hlt⟩:=hI.out.parts hb0;have hN:=hid (hI.out.step hb0)
     have hlt2:(a'-a'.tdiv b*b).natAbs<b.natAbs:=by
      obtain ⟨K,R,h1,h2,h3,h4⟩:=hI.out.parts hb0;rw [h2];exact h4
     obtain ⟨K,hK⟩ : ∃K,K=a'.tdiv b:=⟨_,rfl⟩
     rw [<-hK] at b3 b4 b5 b6 hN hlt2;have m0:IntKind.i64.wrap (a'.tdiv b)=K:=by rw [<-hK];exact IntWalk.i64_in _ (by omega)
     have m1:IntKind.i64.wrap (K*b)=K*b:=IntWalk.i64_in _ (by omega);have m2:IntKind.i64.wrap (a'-K*b)=a'-K*b:=IntWalk.i64_in _ (by omega);have m3:IntKind.i64.wrap (K*p)=K*p:=IntWalk.i64_in _ (by omega);have m4:IntKind.i64.wrap (s-K*p)=s-K*p:=IntWalk.i64_in _ (by omega);have m5:IntKind.i64.wrap (K*q)=K*q:=IntWalk.i64_in _ (by omega);have m6:IntKind.i64.wrap (t-K*q)=t-K*q:=IntWalk.i64_in _ (by omega);have hbf:(b==0)=false:=by simp [hb0]
     clear hK hI hlt b1 b2 b3 b4 b5 b6 b7 b8 b9 b10;go_wp2_with fail;go_roundw
     case rel=>exact ⟨b,a'-K*b,p,q,s-K*p,t-K*q,rfl,rfl,rfl,rfl,rfl,rfl,hN,hO,hE⟩
     case measure=>simpa [intOf] using hlt2
  ·obtain rfl:n=i:=by omega
   have ha:a=1:=Xm (Hgcd.out a λz hz=>by
    obtain ⟨r,hr,rfl⟩:=List.getElem_of_mem hz;rw [<-Ka hr]
    exact hX.out.dv r (by rw [Hvl.out] at hr;exact hr)) (by omega)
   have HXl:=hid hX.out.len;have hsm:=hid (show KD (λi=>v.getD i 0*(pfM x k n).getD i 0) n=k by rw [Ko0 hX.out.len hX.out.sum,ha];omega);have h2:129^(n-1)<=129^2:=Nat.pow_le_pow_right (by omega) (by omega)
   have hfb:=hid (show ∀t,((pfM x k n).getD t 0).natAbs<=1000000 from λt=>by
    by_cases h:t<x.length
    ·rw [Xb h];have h1:=hxb.out t;split
     ·rw [Int.natAbs_mul];have:(x.getD t 0).natAbs*(k:Int).natAbs<=129^2*20:=Nat.mul_le_mul (by omega) (by omega);omega
     ·omega
    ·rw [List.getD_eq_getElem?_getD,List.getElem?_eq_none (by simpa using h)];simp)
   clear hX ha;go_wp2_with fail
   go_loopw [16] (λjv wr => ∃j:Nat,j<=n/\jv = .int .i64 j/\Hid (Kd 3 w.heap.size wr g n (is (pfM x k j)))/\Ext w wr) (λjv _=>n-(intOf jv).toNat)
   case atStart=>exact ⟨0,by omega,by go_num,hid (by rw [KhG];exact hO.out),hE⟩
   case round =>
    clear hO hE;obtain ⟨j,hj,rfl,hO,hE⟩:=hrel;generalize wr=U at *
    by_cases hjn:j<n
    ·have hjni:(j:Int)<(n:Int):=by omega
     have hjx:j<x.length:=by rw [HXl.out];exact hjn
     have c0:=Kd1 hO.out (k:=j) (by rw [Yn];exact hjx);rw [show (pfM x k j).getD j 0=x.getD j 0 by rw [Xb hjx,if_neg (by omega)]] at c0;have hst:=hid (show (is (pfM x k j)).set j (.int .i64 (x.getD j 0*k))=is (pfM x k (j+1)) by rw [<-YO,KhF]);have hzb:=hxb.out j;obtain ⟨z,hz⟩ : ∃z,z=x.getD j 0:=⟨_,rfl⟩
     rw [<-hz] at c0 hst hzb;have hzs:(z*k).natAbs<=129^2*20:=by rw [Int.natAbs_mul];exact Nat.mul_le_mul (by omega) (by omega)
     have m1:IntKind.i64.wrap (z*k)=z*k:=IntWalk.i64_in _ (by omega);have f0:=hO.out.frozen j;obtain ⟨s1,g1⟩:=hO.out.set j (.int .i64 (z*k));rw [hst.out] at s1;have HS:=hid s1;have HE:=hid (Kb hE g1 hO.out.lt.1);clear s1 g1 hz hjx hO hE;go_wp2_with fail;go_roundw
     case rel=>exact ⟨j+1,by omega,by go_num,HS,HE.out⟩
     case measure=>simp [intOf]<;>omega
    ·obtain rfl:n=j:=by omega
     have hres:=hid (show KlS w n k v (.returned (slv g n n)) U from ⟨g,n,pfM x k n,rfl,hO.out,by rw [Yn];exact HXl.out,hsm.out,hfb.out,hE⟩);clear hO hE;go_wp2_with fail;go_ret;exact hres.out
theorem CoV.mk3 {M:Mx} {x c:Nat->Rat} (h0:c 0+((eM M 0 0:Int):Rat)*c 1+((eM M 1 0:Int):Rat)*c 2=x 0) (h1:((eM M 0 1:Int):Rat)*c 1+((eM M 1 1:Int):Rat)*c 2=x 1) (h2:((eM M 0 2:Int):Rat)*c 1+((eM M 1 2:Int):Rat)*c 2=x 2):CoV 3 M x c:=λi hi=>by
 rcases (show i=0\/i=1\/i=2 by omega) with rfl | rfl | rfl
 ·simp only [QL,QH M (show 0<3 by omega),XM,Kba,if_true];simp only [Rat.intCast_ofNat];rw [<-h0];grind
 ·simp only [QL,QH M (show 0<3 by omega),XM,Kba,if_neg (show ¬(1:Nat)=0 by omega)];simp only [Rat.intCast_zero];rw [<-h1];grind
 ·simp only [QL,QH M (show 0<3 by omega),XM,Kba,if_neg (show ¬(2:Nat)=0 by omega)];simp only [Rat.intCast_zero];rw [<-h2];grind
theorem BkM.ex {n:Nat} {M:Mx} {v:List Int} (h:BkM n M v) (x:Nat->Rat) : ∃c,CoV n M x c:=by
 have hz:=h.nz
 rcases h.hn with rfl | rfl
 ·rw [Kb2,if_pos rfl] at hz;have hq:=Yf (show eM M 0 1≠0 by omega);have hd:=Rat.div_mul_cancel (a:=x 1) hq;obtain ⟨t,ht⟩ : ∃t,t=x 1/((eM M 0 1:Int):Rat):=⟨_,rfl⟩
  rw [<-ht] at hd;exact ⟨λj=>if j=0 then x 0-((eM M 0 0:Int):Rat)*t else t,CoV.mk2 (by show x 0-((eM M 0 0:Int):Rat)*t+((eM M 0 0:Int):Rat)*t=x 0;grind) (by show ((eM M 0 1:Int):Rat)*t=x 1;grind)⟩
 ·rw [(Kc0 M).1] at hz;have hq:=Yf hz;rw [Rat.intCast_sub,Rat.intCast_mul,Rat.intCast_mul] at hq;obtain ⟨D,hD⟩ : ∃D,D=((eM M 0 1:Int):Rat)*((eM M 1 2:Int):Rat)-((eM M 0 2:Int):Rat)*((eM M 1 1:Int):Rat):=⟨_,rfl⟩
  rw [<-hD] at hq;have h1:=Rat.div_mul_cancel (a:=x 1*((eM M 1 2:Int):Rat)-x 2*((eM M 1 1:Int):Rat)) hq;have h2:=Rat.div_mul_cancel (a:=((eM M 0 1:Int):Rat)*x 2-((eM M 0 2:Int):Rat)*x 1) hq;obtain ⟨t1,ht1⟩ : ∃t,t=(x 1*((eM M 1 2:Int):Rat)-x 2*((eM M 1 1:Int):Rat))/D:=⟨_,rfl⟩
  obtain ⟨t2,ht2⟩ : ∃t,t=(((eM M 0 1:Int):Rat)*x 2-((eM M 0 2:Int):Rat)*x 1)/D:=⟨_,rfl⟩
  rw [<-ht1] at h1;rw [<-ht2] at h2;refine ⟨λj=>if j=0 then x 0-((eM M 0 0:Int):Rat)*t1-((eM M 1 0:Int):Rat)*t2 else if j=1 then t1 else t2,CoV.mk3 ?_ ?_ ?_⟩
  ·show x 0-((eM M 0 0:Int):Rat)*t1-((eM M 1 0:Int):Rat)*t2+((eM M 0 0:Int):Rat)*t1+((eM M 1 0:Int):Rat)*t2=x 0
   grind
  ·show ((eM M 0 1:Int):Rat)*t1+((eM M 1 1:Int):Rat)*t2=x 1
   exact QC hq (by
    have e1:D*(((eM M 0 1:Int):Rat)*t1+((eM M 1 1:Int):Rat)*t2)=((eM M 0 1:Int):Rat)*(t1*D)+((eM M 1 1:Int):Rat)*(t2*D):=by grind
    rw [e1,h1,h2,hD];grind)
  ·show ((eM M 0 2:Int):Rat)*t1+((eM M 1 2:Int):Rat)*t2=x 2
   exact QC hq (by
    have e1:D*(((eM M 0 2:Int):Rat)*t1+((eM M 1 2:Int):Rat)*t2)=((eM M 0 2:Int):Rat)*(t1*D)+((eM M 1 2:Int):Rat)*(t2*D):=by grind
    rw [e1,h1,h2,hD];grind)
theorem Kfd {w:World} {v:Value} {F:Mx} {n:Nat} (hn:n=2\/n=3) (hM:KJ w v F) (hl:F.length=n) (hR:Ku n F) (hB : ∀r∈F,∀z∈r,z.natAbs<=1000000) :
  Calls Tryz.prog 79 #[v] w λe w'=>e = .returned (.int .i64 (KcY n F))/\Ext w w':=by
 rcases hn with rfl | rfl
 ·have e:KcY 2 F=JA F:=if_pos rfl;rw [e];exact KkF hM hl hR hB
 ·have e:KcY 3 F=Zx F 3:=if_neg (by omega);rw [e];exact Kg1 hM hl hR hB
variable {w:World} {n cp m cu gm nx cx:Nat} {sp sx:Option Addr} {vo:Value} {P:List Int} {M:Mx} {O:List Rat} {vl x:List Int}
def coL (c:Nat->Rat) (i:Nat):List Rat:=(List.range i).map c
@[simp] theorem Zv (c:Nat->Rat) (i:Nat):(coL c i).length=i:=by simp [coL]
theorem Kme (c:Nat->Rat) (i:Nat):coL c i++[c i]=coL c (i+1):=by simp [coL,List.range_succ]
theorem KiS {T:TypeId} {B K:Nat} {w w':World} {g cap:Nat} {xs:List Value} (h:Kd T B w g cap xs) (hB:Below K w w') (hg:g<K):Kd T B w' g cap xs:=by
 obtain ⟨cur,h1,h2,h3,h4,h5,h6⟩:=h.parts;exact Kd.of h1 (by rw [hB.block g hg];exact h2) h3 h4 h5 h6
theorem Kka {B L n:Nat} {T:TypeId} {w:World} {v:Value} {xs:List Value} (h:w.ownsRow B T 1 v L xs) (hL:L=n) (h0:0<n) : ∃g c,v=slv g n c:=by
 subst hL
 rcases h.2 with ⟨_,h1⟩ | ⟨g,cap,cur,rfl,_⟩
 ·omega
 ·exact ⟨g,cap,rfl⟩
theorem Knd {B L g n c:Nat} {T:TypeId} {w:World} {xs:List Value} (h:w.ownsRow B T 1 (slv g n c) L xs) (hL:L=n) (hx:xs.length=n):Kd T B w g c xs:=by
 subst hL;unfold Kd;rw [hx];exact h
theorem KnF {B g n:Nat} {w:World} (h:Kd 3 B w g n ((is (List.replicate n 0)).set 0 (.int .i64 1))):Kd 3 B w g n (is (Xh n 0)):=by
 rw [<-YO] at h;exact h
theorem Kf3 {w:World} {n cp cx:Nat} {sp sx:Option Addr} {vu vo:Value} {M:Mx} {vl x:List Int} {c:Nat->Rat} (hB:BkM n M vl) (hM:KJ w vu M) (hx:KT w (.slice sx n cx) x) (hxl:x.length=n) (hxb : ∀z∈x,z.natAbs<=1000000) (hc:CoV n M (λi=>((x.getD i 0:Int):Rat)) c) (hL:Laid w) :
  Calls Tryz.prog 41 #[.agg #[.slice sp n cp,vu,vo],.slice sx n cx] w λe w' => ∃v,e = .returned v/\SzV w.heap.size w' v (coL c n)/\Ext w w':=by
 have hn:=hB.hn;have hn0:0<n:=by omega
 have hn3:n<=3:=by omega
 have hMl:=hB.len;obtain ⟨i0,hi,hz0,hz1,hz2⟩:=info_parts Tryz.infoInt;obtain ⟨hdet0,hdet⟩:=Kmj hB hxl hc;obtain ⟨sa,gm,om,cap,vs,rfl,hcap,hvl,hS,hr⟩:=hM;obtain ⟨m,hm⟩ : ∃m,m=M.length:=⟨_,rfl⟩
 rw [<-hm] at hcap ⊢;have hm0:0<m:=by omega
 have hmn:1+m=n:=by omega
 have hm2:m<=2:=by omega
 have HX:=KcV w 34 (.slice sp n cp) (.slice sa m cap) vo;have hE0:Ext w (w.alloc (.cells #[.slice sp n cp,.slice sa m cap,vo] 34)):=(Ext.refl w).alloc _;obtain ⟨a0,a1,a2⟩:=Xk HX;have HS:=hid hS;have HV:=hid hvl;have HR:=hid hr;have Hx:=hid hx;have Hxl:=hid hxl;have Hxb:=hid hxb;have HB:=hid hB;have HL:=hid hL;have Hm:=hid hm;have Hdet:=hid hdet;have Hdet0:=hid hdet0;have Hn:=hid hn;have Hmn:=hid hmn
 have h1v:=hid (show ∀u∈vs,u.oneCell'=true from λu hu=>by
  obtain ⟨i,hi,rfl⟩:=List.getElem_of_mem hu
  exact (HR.out i (by rw [<-HV.out];exact hi) hi).one)
 clear hS hvl hr hx hxl hxb hB hL hm hn hdet hdet0 hMl hc HX a2 hmn
 go_enter Tryz.func41,Tryz.ntmps41
 go_upto_region 1 with fail;have hbw0:w.heap.size<(w.alloc (.cells #[.slice sp n cp,.slice sa m cap,vo] 34)).heap.size:=World.block_lt_of_cell? _ _ a0;generalize w.alloc (.cells #[.slice sp n cp,.slice sa m cap,vo] _)=W0 at *;go_upto_region 2 with (at_make;refine wpList_make_full _ rfl _ _ 38 rfl W0.heap.size 3 i0 (.int .i64 0) 1 Tryz.underlying38 hi hz0 hz1 .i64 .i64 _ _ n rfl rfl (by omega) (by omega) (by rw [hz2];omega) (by unfold maxLen;omega) (Nat.le_refl _) ?_;intro w1 hown1 hgrow1)
 have hE1:Ext W0 w1:=KR hgrow1;obtain ⟨g,hg⟩ : ∃g,g=W0.heap.size:=⟨_,rfl⟩
 have hR1:Kd 3 W0.heap.size w1 W0.heap.size n (is (List.replicate n 0)):=J7 (KbO hown1) (by simp);have hgle:W0.heap.size<=g:=by omega
 have eA:Ext w1 (w1.alloc (.cells #[slv W0.heap.size n n] 38)):=(Ext.refl w1).alloc _;have hH:Kd 38 w1.heap.size (w1.alloc (.cells #[slv W0.heap.size n n] 38)) w1.heap.size 1 [slv W0.heap.size n n]:=Kd.of (Nat.le_refl _) Array.getElem?_push_size (by simp) (by unfold maxLen;omega) rfl rfl;have hR2:=hR1.ext eA;have hgl:=hR1.lt.2;have h0:=hH.cell (j:=0) (by simp)
 have k0:(w1.alloc (.cells #[slv W0.heap.size n n] 38)).cell? ⟨W0.heap.size,0,none⟩=some (.int .i64 0):=by
  rw [hR2.cell (j:=0) (by simpa using hn0)];simp [is]
 have f0:=hR2.frozen 0;obtain ⟨hs2,hg2⟩:=hR2.set 0 (.int .i64 1);have hE1':=hE1.trans eA;have a0:=hE1'.cell a0;have a1:=hE1'.cell a1;have hbW1:W0.heap.size<=w1.heap.size:=hE1.size;obtain ⟨b,hb⟩ : ∃b,b=w1.heap.size:=⟨_,rfl⟩
 rw [<-hb] at hH h0 hgl hbW1;generalize w1.alloc (.cells #[slv W0.heap.size n n] _)=W2 at *;rw [<-hg] at hs2 hg2 f0 k0 h0 hH hgl;rw [<-hg,<-hb];clear hown1 hgrow1 hR1 hR2 hE1 eA hb hg;go_upto_region 3 with fail;have hE3:Ext W0 (W2.setCell ⟨g,0,none⟩ (.int .i64 1)):=Kb hE1' hg2 hgle;have hR3:=hid (KnF hs2);have hH3:=hid (World.ownsRow.kept hH hg2 (.inr (λe=>by have e2:b=g:=Option.some.inj e;omega)));have hb3:=Kd.lt hH3.out;have a1:=Kl hg2 (by omega) a1;generalize W2.setCell ⟨g,0,none⟩ (.int .i64 1)=W3 at *;have hE3w:=hE0.trans hE3;have hS3:=hid (HS.out.ext hE3w);clear hs2 hg2 f0 k0 h0 hH hE1' a0;go_upto_region 4 with (at_builtin;refine Kin rfl _ _ rfl (B:=b) (n:=1) (xs:=[slv g n n]) rfl hH3.out rfl hS3.out (by rw [HV.out,Hm.out]) hm0 h1v.out (by omega) (by omega) ?_;intro v4 w4 hO4 hB4)
 have hE4:Ext W0 w4:=Below.trans hE3 (hB4.mono hbW1);have hE4w:=hE0.trans hE4;have hg4:=KiS hR3.out hB4 hgl;have hbl:=Ye (n:=n) (M:=M) (by rw [<-Hm.out];have:=Hmn.out;omega);have hvl:([slv g n n]++vs).length=n:=by have:=Hmn.out;simp [HV.out,<-Hm.out];omega
 have HRW:=hid (show ∀j (_:j<(bsM n M).length) (h':j<([slv g n n]++vs).length),KT w4 ([slv g n n]++vs)[j] (bsM n M)[j] from λj h1 h2=>by
  match j,h1,h2 with
  | 0,_,_ =>
   have:=Kd.rowR hg4;rw [Jv] at this;exact this
  | j+1,h1,h2=>exact (HR.out j (by simpa [bsM] using h1) (by simpa using h2)).ext hE4w)
 obtain ⟨g4,c4,rfl⟩:=Kka hO4 Hmn.out hn0;have hO4':=Knd hO4 Hmn.out hvl;have hcols:=hid (Kjl (F:=bsM n M) (by rw [hvl,hbl]) (by rw [hbl];have h:=hO4;rw [Hmn.out] at h;exact h) HRW.out);have HS4:=hid hO4'.sl;have Hvl:=hid hvl;have Hbl:=hid hbl;have hn8:n<=c4:=by have:=hO4'.cap;rw [hvl] at this;exact this
 have hde:=hid (Kfd (w:=w4) Hn.out hcols.out hbl (Kdt HB.out.rect) (Kds hn0 HB.out.bd))
 have h1w:=hid (show ∀u∈[slv g n n]++vs,u.oneCell'=true from λu hu=>by
  rcases List.mem_append.1 hu with h | h
  ·rw [List.mem_singleton.1 h];rfl
  ·exact h1v.out u h)
 have Hin:=hid (show ∀i,(KcY n ((bsM n M).set i x)).natAbs<=6000000000000000000 from λi=>Kf6 (Ki5 (Kds hn0 HB.out.bd) Hxb.out i));have HDb:=hid (show (KcY n (bsM n M)).natAbs<=6000000000000000000 from Kf6 (Kds hn0 HB.out.bd));obtain ⟨D,hD⟩ : ∃D,D=KcY n (bsM n M):=⟨_,rfl⟩
 have HD:=hid hD;rw [<-hD] at hde HDb;have Hx4:=hid (Hx.out.ext hE4w);clear hO4 hB4 hg4 hH3 hR3 hS3 hE3 hE3w hcols hO4' hvl hbl hD a1 h1v HS HR Hx hgl hbW1 hgle hbw0 hcap hm0 hb3;go_wp2_with fail;refine hde.out.mono ?_;rintro e w5 ⟨rfl,hE5⟩;have hE5w:=hE4w.trans hE5;clear hde;go_wp2_with fail
 go_loopw [7,8] (λvv iv wr => ∃i:Nat,i<=n/\iv = .int .i64 i/\Hid (SzV w5.heap.size wr vv (coL c i))/\Ext w5 wr) (λ_ iv _=>n-(intOf iv).toNat)
 case atStart=>exact ⟨0,by omega,by go_num,hid (SzV.nil _ _),Ext.refl _⟩
 case round =>
  obtain ⟨i,hi',rfl,hV,hE⟩:=hrel;generalize wr=X at *
  by_cases hin:i<n
  ·have hii:(i:Int)<(n:Int):=by omega
   have hE4X:=hE5.trans hE;have hSX:=hid (HS4.out.ext (hE4X.alloc (.cells #[] 38)));have hH0:=hid (show Kd 38 X.heap.size (X.alloc (.cells #[] 38)) X.heap.size 0 [] from Kd.of (Nat.le_refl _) (Kbj _ _) (Nat.le_refl _) (Nat.zero_le _) rfl rfl);go_upto_region 10 with (at_builtin;refine Kin rfl _ _ rfl (B:=X.heap.size) (n:=0) (m:=n) (xs:=[]) (us:=[slv g n n]++vs) rfl hH0.out rfl hSX.out Hvl.out hn0 h1w.out (by omega) (by simp) ?_;intro v9 w9 hO9 hB9;rw [Nat.zero_add,List.nil_append] at hO9;obtain ⟨g9,c9,rfl⟩:=Kka hO9 rfl hn0)
   have hE9:Ext X w9:=Below.trans ((Ext.refl X).alloc _) hB9;have hO9':=Knd hO9 rfl Hvl.out;have f9:=hO9'.frozen i;obtain ⟨u9,k9⟩ : ∃u,w9.cell? ⟨g9,i,none⟩=some u:=⟨_,hO9'.cell (j:=i) (by rw [Hvl.out];exact hin)⟩
   obtain ⟨s10,gr10⟩:=hO9'.set i (.slice sx n cx);have hn9:n<=c9:=by have:=hO9'.cap;rw [Hvl.out] at this;exact this
   have hE10:Ext X (w9.setCell ⟨g9,i,none⟩ (.slice sx n cx)):=Kb hE9 gr10 hO9'.lt.1;clear hO9 hB9 hH0 hSX;go_upto_region 11 with fail
   have hMx:=hid (Kjl (v:=slv g9 n c9) (F:=(bsM n M).set i x) (vs:=([slv g n n]++vs).set i (.slice sx n cx)) (by rw [List.length_set,List.length_set,Hvl.out,Hbl.out]) (by have h:=s10;unfold Kd at h;rw [List.length_set,Hvl.out] at h;rw [List.length_set,Hbl.out];exact h) (λj h1 h2=>by
    rw [List.getElem_set,List.getElem_set]
    by_cases e:i=j
    ·rw [if_pos e,if_pos e];exact Hx4.out.ext (hE4X.trans hE10)
    ·rw [if_neg e,if_neg e];exact (HRW.out j (by simpa using h1) (by simpa using h2)).ext (hE4X.trans hE10)))
   generalize w9.setCell ⟨g9,i,none⟩ (.slice sx n cx)=w10 at *;have hdi:=hid (Kfd (w:=w10) Hn.out hMx.out (by rw [List.length_set];exact Hbl.out) (Knx (Kdt HB.out.rect) Hxl.out i) (Ki5 (Kds hn0 HB.out.bd) Hxb.out i));have hib:=Hin.out i;have hDb:=HDb.out;have hq:=Hdet.out i hin;rw [<-HD.out] at hq;obtain ⟨di,hdi2⟩ : ∃di,di=KcY n ((bsM n M).set i x):=⟨_,rfl⟩
   rw [<-hdi2] at hdi hib hq;have hof:=hid (λW (hW:Ext w10 W)=>Kax (n:=di) (d:=D) (w:=W) (by omega) (by omega) (by rw [HD.out];exact Hdet0.out) (HL.out.ext ((hE5w.trans (hE.trans hE10)).trans hW)));rw [hq] at hof;obtain ⟨r,hr⟩ : ∃r,r=c i:=⟨_,rfl⟩
   rw [<-hr] at hof;have Hsn:=hid (show coL c i++[r]=coL c (i+1) by rw [hr,Kme]);have hV10:=hid (hV.out.ext hE10);have hEX:=hE.trans hE10;clear hMx s10 gr10 hO9' f9 k9 hdi2 hq hr hV hE10 hE9 hE hE4X;go_wp2_with fail;refine hdi.out.mono ?_;rintro e w11 ⟨rfl,hE11⟩;go_wp2_with fail;refine (hof.out _ hE11).mono ?_;rintro e w12 ⟨rfl,hE12⟩;have hV12:=hid ((hV10.out.ext hE11).ext hE12);have hE12':=(hEX.trans hE11).trans hE12;have hY:=Ky (Zg w12 (I r.num) (I r.den));have eY:Ext w12 (w12.alloc (.cells #[I r.num,I r.den] 47)):=(Ext.refl w12).alloc _;clear hdi hof hV10 hEX hE11 hE12;go_upto_region 12 with fail;obtain ⟨y0,y1,_,_⟩:=hY;generalize w12.alloc (.cells #[I r.num,I r.den] _)=Y at *;have hVY:=hid (hV12.out.ext eY);have hEY:=hE12'.trans eY;have hsz:=hEY.size;have Hil:=hid (Zv c i);clear hV12 hE12' eY;go_wp2_with (at_builtin;refine KfY rfl _ _ 32 Tryz.underlying32 rfl rfl (hVY.out.ext ((Ext.refl _).alloc _)) (b:=Y.heap.size) rfl (r:=r) (by go_simp) (by go_simp) (by rw [Hil.out];omega) (by simp;omega) ?_;intro gg cap2 w8 hO8 hB8 hG8;rw [Hil.out] at hO8 ⊢;rw [Hsn.out] at hO8)
   have hE8:Ext w5 w8:=Below.trans (hEY.alloc _) hB8;have HO8:=hid hO8;clear hG8 hB8 hO8;go_wp2_with fail;go_roundw
   case rel=>exact ⟨i+1,by omega,by go_num,HO8,hE8⟩
   case measure=>simp [intOf]<;>omega
  ·obtain rfl:n=i:=by omega
   have hO2:=hid (hV.out.mono hE5w.size);have hEr:=hE5w.trans hE;have hres:=hid (show ∀ov,SzV w.heap.size X ov (coL c n) -> ∃v,Ending.returned ov = .returned v/\SzV w.heap.size X v (coL c n)/\Ext w X from λov h=>⟨ov,rfl,h,hEr⟩);go_wp2_with fail;go_ret;exact hres.out _ hO2.out
theorem Kq9:((0:Int):Rat)/((1:Int):Rat)=0:=by decide +kernel
theorem Krg {w:World} {n gb go:Nat} {l:List Rat} (hl:l.length=n) (h : ∀i (h:i<l.length),w.cell? ⟨gb,go+i*2,none⟩=some (I l[i].num)/\w.cell? ⟨gb,go+i*2+1,none⟩=some (I l[i].den)) {i:Nat} (hi:i<n):w.cell? ⟨gb,go+i*2,none⟩=some (I (l.getD i 0).num)/\w.cell? ⟨gb,go+i*2+1,none⟩=some (I (l.getD i 0).den):=by
 have h1:i<l.length:=by omega
 have e:l.getD i 0=l[i]:=by rw [List.getD_eq_getElem?_getD,List.getElem?_eq_getElem h1];rfl
 rw [e];exact h i h1
theorem Kqd {O:List Rat} (h : ∀x∈O,NdQ 1000 x) (k:Nat):NdQ 1000 (QQ O k):=by
 unfold QQ;split
 ·exact NdQ.zero (by omega)
 ·exact NdQ.getD h (by omega) _
theorem Kqc {O:List Rat} {k k1:Nat} (h:k≠0) (hk:k1=k-1):QQ O k=O.getD k1 0:=by
 unfold QQ;rw [if_neg h,hk]
theorem Kj3 {a t A T:Rat} (h1 : -A<=a) (h2:a<=A) (h3 : -T<=t) (h4:t<=T) : -(A*T)<=a*t/\a*t<=A*T:=by
 have p1:0<=(A-a)*(T-t):=Rat.mul_nonneg (by grind) (by grind);have p2:0<=(A+a)*(T+t):=Rat.mul_nonneg (by grind) (by grind);have p3:0<=(A-a)*(T+t):=Rat.mul_nonneg (by grind) (by grind);have p4:0<=(A+a)*(T-t):=Rat.mul_nonneg (by grind) (by grind);constructor<;>grind
theorem Ju {r B:Rat} {D:Int} (hD:D≠0) (h1 : -B<=r*((D:Int):Rat)) (h2:r*((D:Int):Rat)<=B) : -B<=r/\r<=B:=by
 have key : ∀d:Rat,1<=d -> -B<=r*d->r*d<=B -> -B<=r/\r<=B:=λd hd k1 k2=>by
  constructor
  ·refine Rat.not_lt.1 λhlt => ?_
   have hB:0<=B:=by grind
   have p:0<=(-B-r)*(d-1):=Rat.mul_nonneg (by grind) (by grind);have p2:0<=B*(d-1):=Rat.mul_nonneg hB (by grind)
   grind
  ·refine Rat.not_lt.1 λhlt => ?_
   have hB:0<=B:=by grind
   have p:0<=(r-B)*(d-1):=Rat.mul_nonneg (by grind) (by grind);have p2:0<=B*(d-1):=Rat.mul_nonneg hB (by grind)
   grind
 rcases Int.lt_or_gt_of_ne hD with h | h
 ·have h3:((D:Int):Rat)<=((-1:Int):Rat):=Rat.intCast_le_intCast.2 (by omega);have e1:((-1:Int):Rat) = -1:=rfl;rw [e1] at h3;exact key (-((D:Int):Rat)) (by grind) (by grind) (by grind)
 ·have h3:((1:Int):Rat)<=((D:Int):Rat):=Rat.intCast_le_intCast.2 (by omega);have e1:((1:Int):Rat)=1:=rfl;rw [e1] at h3;exact key ((D:Int):Rat) h3 h1 h2
theorem Kgb {x:List Int} (h : ∀z∈x,z.natAbs<=1000000) (i:Nat) : -1000000<=x.getD i 0/\x.getD i 0<=1000000:=by
 by_cases hi:i<x.length
 ·rw [Ka hi];have:=h _ (List.getElem_mem hi);omega
 ·rw [List.getD_eq_getElem?_getD,List.getElem?_eq_none (by omega)];show (-1000000:Int)<=0/\(0:Int)<=1000000;omega
theorem Kpk {n:Nat} {M:Mx} {v:List Int} (h:BkM n M v) {x:Nat->Int} {c:Nat->Rat} (hx : ∀i,-1000000<=x i/\x i<=1000000) (hc:CoV n M (λi=>((x i:Int):Rat)) c) : ∀j,j<n -> -257000000<=c j/\c j<=257000000:=by
 have hq : ∀i,-1000000<=((x i:Int):Rat)/\((x i:Int):Rat)<=1000000:=λi=>by
  have h1:((-1000000:Int):Rat)<=((x i:Int):Rat):=Rat.intCast_le_intCast.2 (hx i).1;have h2:((x i:Int):Rat)<=((1000000:Int):Rat):=Rat.intCast_le_intCast.2 (hx i).2;exact ⟨h1,h2⟩
 have hz:=h.nz
 have hp : ∀i j k,-8000000<=((eM M i j:Int):Rat)*((x k:Int):Rat)/\((eM M i j:Int):Rat)*((x k:Int):Rat)<=8000000:=λi j k=>by
  have:=Kj3 (h.el i j).1 (h.el i j).2 (hq k).1 (hq k).2;constructor<;>grind
 rcases h.hn with rfl | rfl
 ·obtain ⟨e0,e1⟩:=hc.e2;rw [Kb2,if_pos rfl] at hz;obtain ⟨k1,k2⟩:=Ju (r:=c 1) (B:=1000000) (D:=eM M 0 1) (by omega) (by have:=(hq 1).1;grind) (by have:=(hq 1).2;grind);have hq0:=hq 0;have h3:=Kj3 (h.el 0 0).1 (h.el 0 0).2 k1 k2;intro j hj
  rcases (show j=0\/j=1 by omega) with rfl | rfl<;>(constructor<;>grind)
 ·obtain ⟨e0,e1,e2⟩:=hc.e3;rw [(Kc0 M).1] at hz
  have f1:c 1*((eM M 0 1*eM M 1 2-eM M 0 2*eM M 1 1:Int):Rat)=((eM M 1 2:Int):Rat)*((x 1:Int):Rat)-((eM M 1 1:Int):Rat)*((x 2:Int):Rat):=by
   rw [Rat.intCast_sub,Rat.intCast_mul,Rat.intCast_mul,<-e1,<-e2];grind
  have f2:c 2*((eM M 0 1*eM M 1 2-eM M 0 2*eM M 1 1:Int):Rat)=((eM M 0 1:Int):Rat)*((x 2:Int):Rat)-((eM M 0 2:Int):Rat)*((x 1:Int):Rat):=by
   rw [Rat.intCast_sub,Rat.intCast_mul,Rat.intCast_mul,<-e1,<-e2];grind
  have a1:=hp 1 2 1;have a2:=hp 1 1 2;have a3:=hp 0 1 2;have a4:=hp 0 2 1;obtain ⟨k1,k2⟩:=Ju (r:=c 1) (B:=16000000) hz (by rw [f1];grind) (by rw [f1];grind);obtain ⟨k3,k4⟩:=Ju (r:=c 2) (B:=16000000) hz (by rw [f2];grind) (by rw [f2];grind);have hq0:=hq 0;have h3:=Kj3 (h.el 0 0).1 (h.el 0 0).2 k1 k2;have h4:=Kj3 (h.el 1 0).1 (h.el 1 0).2 k3 k4;intro j hj
  rcases (show j=0\/j=1\/j=2 by omega) with rfl | rfl | rfl<;>(constructor<;>grind)
theorem Kpw {O:List Rat} {n:Nat} {c:Nat->Rat} (hO : ∀j,-12<=QQ O j/\QQ O j<=12) (hc : ∀j,j<n -> -257000000<=c j/\c j<=257000000) {j:Nat} (hj:j<n) : -257000013<=qE O c j/\qE O c j<=257000013:=by
 obtain ⟨h1,h2⟩:=(YT (c j-QQ O j) (qE O c j)).1 rfl;have h3:=hO j;have h4:=hc j hj
 have h5:((-257000013:Int):Rat)<=((qE O c j:Int):Rat):=by
  have e:((-257000013:Int):Rat) = -257000013:=rfl;rw [e];grind
 have h6:((qE O c j:Int):Rat)<=((257000013:Int):Rat):=by
  have e:((257000013:Int):Rat)=257000013:=rfl;rw [e];grind
 exact ⟨Rat.intCast_le_intCast.1 h5,Rat.intCast_le_intCast.1 h6⟩
theorem KqP {n:Nat} {M:Mx} {v x:List Int} (h:BkM n M v) (hx:x.length=n) (hb : ∀z∈x,z.natAbs<=1000000) {c:Nat->Rat} (hc:CoV n M (λi=>((x.getD i 0:Int):Rat)) c) {j:Nat} (hj:j<n):NdQ 100 (c j):=by
 obtain ⟨h0,h1⟩:=Kmj h hx hc;have hn0:0<n:=by omega
 have hB:=Kds hn0 h.bd;have b1:=Kf6 (n:=n) hB;have b2:=Kf6 (n:=n) (Ki5 hB hb j);rw [<-h1 j hj];exact NdQ.mk (Kbt h0) (Nat.le_trans (Kv (E:=63) (by omega)) (by omega)) (Nat.le_trans (Kv (E:=63) (by omega)) (by omega))
theorem Kqn {n:Nat} {M:Mx} {v x:List Int} (hB:BkM n M v) {q:Nat->Int} {k j i:Nat} (hx : ∀z∈x,z.natAbs<=1000000) (hq : ∀{t},t<n -> -257000013<=q t/\q t<=257000013) (hk:k<n) : -100000000000<=(rdT x (bsM n M) q n k j).getD i 0/\(rdT x (bsM n M) q n k j).getD i 0<=100000000000:=by
 have hn:=hB.hn
 have hs : ∀m,m<=n->(KD (λt=>q t*eM (bsM n M) t i) m).natAbs<=m*3000000000:=λm=>by
  induction m with
  | zero=>intro _;show (0:Int).natAbs<=_;simp
  | succ m ih =>
   intro hm;have h1:=ih (by omega);have h2:=hq (t:=m) (by omega)
   have h3:(eM (bsM n M) m i).natAbs<=8:=by
    match m with
    | 0=>rw [QH M (by omega)];split<;>simp
    | m+1 =>
     rw [JM];have a1:(-8:Int)<=eM M m i:=Rat.intCast_le_intCast.1 (hB.el m i).1;have a2:eM M m i<=(8:Int):=Rat.intCast_le_intCast.1 (hB.el m i).2;omega
   have h4:(q m*eM (bsM n M) m i).natAbs<=257000013*8:=by rw [Int.natAbs_mul];exact Nat.mul_le_mul (by omega) h3
   show (KD (λt=>q t*eM (bsM n M) t i) m+q m*eM (bsM n M) m i).natAbs<=_;omega
 by_cases h:i<n
 ·rw [YZ h];have h2:=Kgb hx i;have h4:(if i<j then k+1 else k)<=n:=by split<;>omega
  have h3:=hs _ h4;generalize (if i<j then k+1 else k)=m at *;have h5:m*3000000000<=3*3000000000:=Nat.mul_le_mul_right _ (by omega);omega
 ·rw [List.getD_eq_getElem?_getD,List.getElem?_eq_none (by simp;omega)];show (-100000000000:Int)<=0/\(0:Int)<=100000000000;omega
theorem Klh {x:List Int} {n:Nat} {M:Mx} {q:Nat->Int} (hn:0<n):(rdT x (bsM n M) q n 0 0).set 0 ((rdT x (bsM n M) q n 0 0).getD 0 0-q 0)=rdT x (bsM n M) q n 1 0:=by
 refine KdL (by simp) λt ht => ?_
 have htn:t<n:=by simpa using ht
 rw [YZ htn,Ka ht,List.getElem_set]
 by_cases e:0=t
 ·subst e;rw [if_pos rfl,YZ hn,if_neg (by omega),if_neg (by omega)];show x.getD 0 0-0-q 0=x.getD 0 0-(0+q 0*eM (bsM n M) 0 0);rw [QH M hn,if_pos rfl];omega
 ·rw [if_neg e,<-Ka (show t<(rdT x (bsM n M) q n 0 0).length by simpa using htn),YZ htn,if_neg (by omega),if_neg (by omega)];show x.getD t 0-0=x.getD t 0-(0+q 0*eM (bsM n M) 0 t);rw [QH M hn,if_neg (λh=>e h.symm)];omega
end
end Go.Proofs.YtdmaofimeknkbaaGreatDoor
