/- Part 21 of the proof of the claim: contracts of the functions that it reaches, and plain laws; no condition. -/
import Derived.Test.YtdmaofimeknkbaaGreatDoorQ19
import Derived.Test.YtdmaofimeknkbaaGreatDoorQ20
import Derived.BigQuiet
import Derived.Deep.CutRange
import Derived.Test.YtdmaofimeknkbaaGreatDoorQ12
set_option maxRecDepth 100000
set_option maxHeartbeats 20000000
namespace Go.Proofs.YtdmaofimeknkbaaGreatDoor
section
open Go.RowKit Go.Sort
open Lib (hid)
theorem KeS {c d j:Nat} {ls:List Ln} (h:d+(j+1)<ls.length):cols c d (KM c d j ls) (j+1)=cols c d ls (j+1):=by
 unfold cols;rw [ZA c d j h,if_neg (by omega)]
theorem Kbc {c d j:Nat} {ls:List Ln} (h:d<ls.length):cols c d (KM c d j ls) 0=cols c d ls 0:=by
 unfold cols;rw [ZA c d j (by omega),if_neg (by omega)]
theorem KgT {c d n m N t:Nat} {ls:List Ln} (hN:ls.length=d+N) (hd:Dim n m ls) (ht:t<N) (h0:t≠0):cols c d (KM c d (N-1) ls) t=(cols c d ls t).fmod (cols c d ls 0):=by
 rw [KdA c d hN hd ht];unfold rdf;rw [if_neg h0,Int.fmod_def,Int.mul_comm]
theorem KkA {c d N p t:Nat} {ls:List Ln} (hN:ls.length=d+N) (hp:p<N) (hz:cols c d ls p≠0) (hc:Zu (cols c d ls) N=1) (ht:t<N) (h0:t≠0):cols c d (swp ls d (d+p)) t=0:=by
 have h1:=KjG hz hp hc;rw [Xz c d hN hp];unfold swf;split
 ·rename_i e;subst e;exact h1 0 (by omega) (by omega)
 ·first | (rw [if_neg (by omega)];exact h1 t ht ‹_›) | exact h1 t ht ‹_›
def RbR (rb:Bool) (f:Nat->Int) (j:Nat):Prop:=rb=true ↔ ∃t,0<t/\t<=j/\(f t).fmod (f 0)≠0
theorem RbR.start (f:Nat->Int):RbR false f 0:=⟨λh=>(by cases h),λ⟨t,h1,h2,_⟩=>(by omega)⟩
theorem RbR.yes {f:Nat->Int} {j:Nat} (h:RbR true f j) : ∃t,0<t/\t<=j/\(f t).fmod (f 0)≠0:=h.1 rfl
theorem RbR.no {f:Nat->Int} {j:Nat} (h:RbR false f j) : ¬∃t,0<t/\t<=j/\(f t).fmod (f 0)≠0:=λh2=>(by cases h.2 h2)
theorem KoV {f:Nat->Int} {j:Nat} {rb:Bool} {rm:Int} (h:RbR rb f j) (hr:rm=(f (j+1)).fmod (f 0)):(rm=0->RbR rb f (j+1))/\(rm≠0->RbR true f (j+1)):=by
 refine ⟨λh0=>h.trans ⟨λ⟨t,a,b,e⟩=>⟨t,a,by omega,e⟩,λ⟨t,a,b,e⟩=>⟨t,a,?_,e⟩⟩,λh0=>⟨λ_=>⟨j+1,by omega,by omega,by rw [<-hr];exact h0⟩,λ_=>rfl⟩⟩
 by_cases e2:t=j+1
 ·subst e2;rw [<-hr] at e;exact absurd h0 e
 ·omega
def KlN (w0:World) (g cap N n k:Nat) (ls:List Ln) (e:Ending) (w':World):Prop :=
 ∃d ps ad' ls',e = .returned (slv g d cap)/\d<=N/\Lr w0.heap.size w' g cap N n ad' ls'/\QF n d ps ls'/\Ops 0 ls ls'/\Yr (bC N k n) ls'/\Ext w0 w'
theorem Kfk {w0 w:World} {g cap N n k:Nat} {ad:List (Nat×Nat)} {ls:List Ln} (hG:Lr w0.heap.size w g cap N n ad ls) (hNp:0<N) (hnp:0<n) (hn2:n<=1000000) (hN:N<=1000000) (hcap:N<=cap)
  (hA:Yr k ls) (hk:2*(2*bC N k n+2)+2<LIM) (hL:Laid w0) (hE:Ext w0 w) :
  Calls Tryz.prog 57 #[slv g N cap,.int .i64 n] w (KlN w0 g cap N n k ls):=by
 have HL:=hid hL;have Hk:=hid hk;have Hdim:=hid hG.dim;clear hL hk
 go_enter Tryz.func57,Tryz.ntmps57
 go_wp2_with fail
 go_loopw [5,6] (λdn idx wr => ∃(c d:Nat) (ps:List Nat) (ad1:List (Nat×Nat)) (ls1:List Ln),c<=n/\d<=N/\idx = .int .i64 c/\dn = .int .i64 d/\Hid (Lr w0.heap.size wr g cap N n ad1 ls1)/\Ext w0 wr/\Hid (QF c d ps ls1/\Ops 0 ls ls1/\Yr (bC N k c) ls1)) (λ_ idx _=>n-(intOf idx).toNat)
 case atStart=>exact ⟨0,0,[],ad,ls,by omega,by omega,by go_num,by go_num,hid hG,hE,hid ⟨QF.start ls,.refl _,hA⟩⟩
 case round =>
  clear hA hG hE;obtain ⟨c,d,ps,ad1,ls1,hc,hdN,rfl,rfl,hG1,hE1,hK1⟩:=hrel;generalize wr=U at *
  have hfin : ∀W (e:Ending),Ext U W->(c=n\/d=N)->e = .returned (slv g d cap)->KlN w0 g cap N n k ls e W:=λW e hW hcd he =>
   ⟨d,ps,ad1,ls1,he,hdN,hG1.out.ext hW,by
    rcases hcd with h | h
    ·subst h;exact hK1.out.1
    ·exact hK1.out.1.full (by rw [hG1.out.len];exact h) hc,hK1.out.2.1,hK1.out.2.2.mono (by
     have:=Kaj N k c (n-c);rwa [show c+(n-c)=n by omega] at this),hE1.trans hW⟩
  have Hfin:=hid hfin;clear hfin;have hdcap:(d:Int)<=(cap:Int):=by omega
  by_cases hcn:c<n
  ·have hci:(c:Int)<(n:Int):=by omega
   by_cases hdL:d<N
   ·have hdi:(d:Int)<(N:Int):=by omega
    have hbn:=Kjx (L:=N) (N:=N-d) (k:=k) (c:=c) (by omega);have hbm:=Kaj N k (c+1) (n-(c+1));rw [show c+1+(n-(c+1))=n by omega] at hbm;have Hbn:=hid hbn;have Hbm:=hid hbm;obtain ⟨kb,hkb⟩ : ∃kb,kb=bC N k c:=⟨_,rfl⟩
    rw [<-hkb] at Hbn;have Hkb:=hid hkb;have HN1:=hid (show ls1.length=d+(N-d) by rw [hG1.out.len];omega);clear hbn hbm hkb;obtain ⟨M,hM⟩ : ∃M,M=N-d:=⟨_,rfl⟩
    have hMd:d+M=N:=by omega
    rw [<-hM] at HN1 Hbn;clear hM;go_wp2_with fail
    go_loopg [5] (sm (cols c d ls1) M) (λk' dn wr => ∃ad2 ls2,dn = .int .i64 d/\Hid (Lr w0.heap.size wr g cap N n ad2 ls2)/\Ext w0 wr/\Hid (k'=sm (cols c d ls2) M/\GG c d M kb ls2/\Ops d ls1 ls2))
    case atStart=>exact ⟨ad1,ls1,rfl,hG1,hE1,hid ⟨rfl,.inl (λt ht=>by rw [Hkb.out];exact hK1.out.2.2 (d+t) (by rw [HN1.out];omega)),.refl _⟩⟩
    case round =>
     obtain ⟨ad2,ls2,rfl,hG2,hE2,hK⟩:=hrel;have hN2:=hid (show ls2.length=d+M by rw [hK.out.2.2.length];exact HN1.out);have hlt2:=hid hK.out.2.1.lt;have Hbig:=hid (show 2*(kb*(M+2)+2)+2<LIM by have:=Hbn.out;have:=Hbm.out;have:=Hk.out;omega);generalize wr=V at *;go_wp2_with fail
     go_loopw [7,8] (λkk idx wr => ∃(i:Nat) (kv:Int),i<=M/\idx = .int .i64 ((d+i:Nat):Int)/\kk = .int .i64 kv/\Hid (∃mv,BsR (cols c d ls2) d i kv mv)/\Ext V wr) (λ_ idx _=>N-(intOf idx).toNat)
     case atStart=>exact ⟨0,-1,by omega,by simp,rfl,hid ⟨false,.inl ⟨rfl,rfl,λt h=>by omega⟩⟩,Ext.refl _⟩
     case round =>
      obtain ⟨i,kv,hi,rfl,rfl,hB0,hEV⟩:=hrel;obtain ⟨mv,hB1⟩:=hB0.out;have hB:=hid hB1;clear hB0 hB1;obtain ⟨a,ha⟩ : ∃a,a=d+i:=⟨_,rfl⟩
      rw [<-ha]
      by_cases hlt:i<M
      ·have hii:(a:Int)<(N:Int):=by omega
       obtain ⟨gx,cx,ead,c1,cz,o1,_⟩:=(hG2.out.ext hEV).ln (d:=d) (i:=i) (by omega) hcn;obtain ⟨z,hz⟩ : ∃z,z=cols c d ls2 i:=⟨_,rfl⟩
       have hzE:=hlt2.out i hlt;have hzE2:nd z<=kb*(M+2)+3:=by rw [hz];exact Kv (hzE.col (Q:=λz=>z.natAbs<2^(kb*(M+2)+2)) (Nat.pow_pos (by omega)) c)
       have Hz2:=hid hzE2;rw [<-hz] at cz;rw [<-ha] at c1;have hitz:(Lib.itoa z==[48])=decide (z=0):=KB z;have Hz:=hid hz;have Ha:=hid ha;clear hz o1 ead hzE hzE2;have hidx:(Value.int .i64 ((a:Int)+1)) = .int .i64 ((d+(i+1):Nat):Int):=by rw [show ((d+(i+1):Nat):Int)=(a:Int)+1 by omega]
       have Hidx:=hid hidx;clear hidx ha
       by_cases hz0:z=0
       ·rw [decide_eq_true hz0] at hitz;have Hz0:=hid hz0;clear hz0;go_wp2_with fail
        go_quiet (fail)
        go_wp2_with fail;go_roundw
        case rel=>exact ⟨i+1,kv,by omega,Hidx.out,rfl,hid ⟨_,KjF hB.out (by rw [<-Hz.out];exact Hz0.out)⟩,hEV.drewN _⟩
        case measure=>simp [intOf]<;>omega
       ·rw [decide_eq_false hz0] at hitz;have Hz0:=hid hz0;clear hz0
        rcases hB.out with ⟨h1,h2,h3⟩ | ⟨p,hp,h1,hpz,hmin,h4⟩
        ·subst h1 h2;have Hall:=hid h3;clear h3 hB;go_wp2_with fail
         go_quiet (fail)
         go_wp2_with fail;go_roundw
         case rel=>exact ⟨i+1,_,by omega,Hidx.out,by rw [Ha.out],hid ⟨_,KgM Hall.out (by rw [<-Hz.out];exact Hz0.out)⟩,hEV.drewN _⟩
         case measure=>simp [intOf]<;>omega
        ·have Hpz:=hid hpz;have Hmin:=hid hmin;have Hp:=hid hp;obtain ⟨ap,hap⟩ : ∃ap,ap=d+p:=⟨_,rfl⟩
         rw [<-hap] at h1;subst h1;obtain ⟨gxp,cxp,eadp,c1p,cy',o1p,_⟩:=(hG2.out.ext hEV).ln (d:=d) (i:=p) (by omega) hcn;have hapN:(ap:Int)<(N:Int):=by omega
         rw [<-hap] at c1p;obtain ⟨y,hy⟩ : ∃y,y=cols c d ls2 p:=⟨_,rfl⟩
         have hyE:=hlt2.out p (by omega);have hyE2:nd y<=kb*(M+2)+3:=by rw [hy];exact Kv (hyE.col (Q:=λz=>z.natAbs<2^(kb*(M+2)+2)) (Nat.pow_pos (by omega)) c)
         rw [<-hy] at cy';have Hy:=hid hy;have Hap:=hid hap;have hzl:nd z<=LIM:=by have:=Hbig.out;have:=Hz2.out;omega
         have hyl:nd y<=LIM:=by have:=Hbig.out;omega
         have hzl':nd (z.natAbs:Int)<=LIM:=by unfold nd at *;rw [Int.natAbs_natCast];exact hzl
         have hyl':nd (y.natAbs:Int)<=LIM:=by unfold nd at *;rw [Int.natAbs_natCast];exact hyl
         have bA:=hid (λ(t:Int) (ht:nd t<=LIM)=>Qn (w:=wr) (λW h=>(Kag (z:=t) ht W)));have Hzl:=hid hzl;have Hyl:=hid hyl;have k1:=cell_regrown c1;have k2:=cell_regrown cz;have k3:=cell_regrown c1p;have k4:=cell_regrown cy';have b3:=hid (Qn (w:=wr) (λW h=>(JG (a:=(z.natAbs:Int)) (b:=(y.natAbs:Int)) hzl' hyl' W)));have Hcmp:=hid (show Jc z.natAbs y.natAbs<0↔z.natAbs<y.natAbs by unfold Jc;split<;>(try split)<;>omega);obtain ⟨q,hq⟩ : ∃q,q=Jc z.natAbs y.natAbs:=⟨_,rfl⟩
         rw [<-hq] at b3 Hcmp;have hap0 : ¬(ap:Int)<0:=by omega
         have hap1:(0:Int)<=(ap:Int):=by omega
         clear hpz hmin hy hB o1p eadp hyE hyE2 hzl hyl hzl' hyl' hq hap hp h4
         rcases Decidable.em (z.natAbs<y.natAbs) with hzy | hzy
         ·have hq0:q<0:=Hcmp.out.2 hzy;have hqd:decide (q<0)=true:=decide_eq_true hq0;have Hzy:=hid hzy;clear hzy;go_wp2_with fail;refine wp_region_quiet_below (by kernel_rfl) (by kernel_rfl) ?_
          repeat (quiet_step (first | (refine bA.out _ ?_ _ _;first | exact Hzl.out | exact Hyl.out) | exact b3.out _ _))
          refine wpQuiet_nil ?_;intro _ hw';obtain ⟨⟨dq,osq⟩,hw''⟩:=hw';subst hw'';have hE5:=hEV.trans (Kk _ dq osq);clear bA b3 k1 k2 k3 k4;go_wp2_with fail;go_roundw
          case rel=>exact ⟨i+1,_,by omega,Hidx.out,by rw [Ha.out],hid ⟨_,KjE Hp.out Hpz.out Hmin.out (by rw [<-Hz.out];exact Hz0.out) (by rw [<-Hz.out,<-Hy.out];exact Hzy.out)⟩,hE5⟩
          case measure=>simp [intOf]<;>omega
         ·have hq0:0<=q:=by have:=mt Hcmp.out.1 hzy;omega
          have hqd:decide (q<0)=false:=decide_eq_false (by omega);have Hzy:=hid hzy;clear hzy;go_wp2_with fail;refine wp_region_quiet_below (by kernel_rfl) (by kernel_rfl) ?_
          repeat (quiet_step (first | (refine bA.out _ ?_ _ _;first | exact Hzl.out | exact Hyl.out) | exact b3.out _ _))
          refine wpQuiet_nil ?_;intro _ hw';obtain ⟨⟨dq,osq⟩,hw''⟩:=hw';subst hw'';have hE5:=hEV.trans (Kk _ dq osq);clear bA b3 k1 k2 k3 k4;go_wp2_with fail;go_roundw
          case rel=>exact ⟨i+1,_,by omega,Hidx.out,by rw [Hap.out],hid ⟨_,KjD Hp.out Hpz.out Hmin.out (by rw [<-Hz.out];exact Hz0.out) (by rw [<-Hz.out,<-Hy.out];have:=Hzy.out;omega)⟩,hE5⟩
          case measure=>simp [intOf]<;>omega
      ·have hiM:i=M:=by omega
       subst hiM;have haN:a=N:=by omega
       subst haN;clear ha
       rcases hB.out with ⟨h1,h2,h3⟩ | ⟨p,hp,h1,hpz,hmin,h4⟩
       ·subst h1 h2;have HSW:=hid (KnK hK.out.2.2 hK.out.2.1 h3);clear h3 hB;go_wp2_with fail;go_roundw
        case rel=>exact ⟨c+1,d,ps,ad2,ls2,by omega,by omega,by go_num,rfl,hid (hG2.out.ext hEV),hE2.trans hEV,hid ⟨hK1.out.1.skip hG1.out.dim HN1.out HSW.out,hK1.out.2.1.trans (HSW.out.ops.mono (by omega)),(HSW.out.all HN1.out (by rw [Hkb.out];exact hK1.out.2.2)).mono (by have:=Hbn.out;omega)⟩⟩
        case measure=>simp [intOf]<;>omega
       ·have Hpz:=hid hpz;have Hmin:=hid hmin;have hG3:=hG2.out.ext hEV;obtain ⟨ap,hap⟩ : ∃ap,ap=d+p:=⟨_,rfl⟩
        rw [<-hap] at h1;subst h1;obtain ⟨gxp,cxp,eadp,c1p,_,_,_⟩:=hG3.ln (d:=d) (i:=p) (by omega) hcn;obtain ⟨gx,cx,ead,c1,_,_,_⟩:=hG3.el (i:=d) (by omega) hcn;rw [<-hap] at c1p eadp;have hapN:(ap:Int)<(a:Int):=by omega
        have hap0 : ¬(ap:Int)<0:=by omega
        have fz:=hG3.fz;have hS:=hG3.swap hnp hdL (by omega:ap<a) ead eadp;have Hsw:=hid (show swp ls2 d ap=swp ls2 d (d+p) by rw [hap]);have Hp:=hid hp;have hgb:=hG3.base.1;have H4:=hid h4;have Hap:=hid hap;have hd0 : ¬(d:Int)<0:=by omega
        go_upto_region 12 with fail
        go_cut [] from 71 to 85 (λwx=>Hid (Lr w0.heap.size wx g cap a n (sw2 ad2 (0,0) d ap) (swp ls2 d ap))/\Ext w0 wx)
        case first =>
         rcases Nat.eq_zero_or_pos p with hp0 | hp0
         ·have hade:ap=d:=by omega
          rw [hade] at c1p eadp hS ⊢;have e1:slv gx n cx=slv gxp n cxp:=by rw [c1] at c1p;exact Option.some.inj c1p
          rw [<-e1] at hS c1p;have HS:=hid hS;have Hade:=hid hade;clear c1p hpz hmin hB hap hp0 h4 eadp ead e1 hS hp hade
          go_region
          (try go_wp2_with fail)
          refine Met.intro ?_
          go_step
          (repeat apply Exists.intro)
          refine ⟨?rel,by rw [Hade.out]⟩;exact ⟨hid (by rw [Hade.out];exact HS.out.1.ext ((Ext.refl _).drew)),(Kb (hE2.trans hEV) HS.out.2 hgb).drew⟩
         ·have d1:ap≠d:=by omega
          have d2:d≠ap:=by omega
          have HS:=hid hS;clear hpz hmin hB hap hp0 h4 eadp ead hS hp
          go_region
          (try go_wp2_with fail)
          go_meet;exact ⟨hid (HS.out.1.ext ((Ext.refl _).drew)),(Kb (hE2.trans hEV) HS.out.2 hgb).drew⟩
        case rest =>
         obtain ⟨hG4,hE4⟩:=hcut;generalize wc=W5 at *;rw [Hsw.out] at hG4;clear hS c1 c1p hG3 hpz hmin hB hap h4 eadp ead hp;have hM0:0<i:=by have:=Hp.out;omega
         have hdd:=hG2.out.dim;have Hless:=hid (λhc1=>Kkd hN2.out hdd Hp.out Hpz.out Hmin.out hc1);have Hone:=hid (λhc1 t (ht:t<i) (h0:t≠0)=>KkA hN2.out Hp.out Hpz.out hc1 ht h0);have HG2:=hid (hK.out.2.1.swp hN2.out Hp.out);have hd2:Dim n 0 (swp ls2 d (d+p)):=hG4.out.dim;have HN2:=hid (show (swp ls2 d (d+p)).length=d+i by rw [Yp];exact hN2.out);have Hz2:=hid (show cols c d (swp ls2 d (d+p)) 0≠0 by rw [KbI hN2.out Hp.out];exact Hpz.out);have Hm2:=hid (KbG hN2.out Hp.out Hmin.out);have HO2:=hid (Ops.step hK.out.2.2 (KbH (d:=d) (i:=d) (j:=d+p) ls2 (by rw [hN2.out];omega) (by rw [hN2.out];have:=Hp.out;omega) (by omega) (by omega)));generalize hls3:swp ls2 d (d+p)=ls3 at *;generalize sw2 ad2 (0,0) d _=ad3 at *;clear hls3 Hsw;have HG3:=hid (HG2.out.red HN2.out hd2 Hz2.out Hm2.out)
         have hR : ∀j,j<=i-1 -> ∀t,t<i->All (λz=>z.natAbs<2^(kb*(i+2)+2)) ((KM c d j ls3).getD (d+t) default):=λj hj t ht=>by
          have h1:=HG2.out.lt t ht;have h2:=HG3.out.lt t ht;rw [ZA c d _ (by rw [HN2.out];omega)] at h2 ⊢
          by_cases htj:d<d+t/\d+t<=d+j
          ·rw [if_pos htj];rw [if_pos (by omega)] at h2;exact h2
          ·rw [if_neg htj];exact h1
         have HR:=hid hR;have hi1:i-1<=i:=by omega
         clear hR;go_wp2_with fail
         go_loopw [9,10] (λrv idx wr => ∃(j:Nat) (rb:Bool),j<=i-1/\idx = .int .i64 ((d+(j+1):Nat):Int)/\rv = .bool rb/\Hid (RbR rb (cols c d ls3) j)/\Hid (Lr w0.heap.size wr g cap a n ad3 (KM c d j ls3))/\Ext w0 wr) (λ_ idx _=>a-(intOf idx).toNat)
         case atStart=>exact ⟨0,false,by omega,by rw [show ((d+(0+1):Nat):Int)=(d:Int)+1 by omega],rfl,hid (RbR.start _),by rw [KaZ];exact hG4,hE4⟩
         case round =>
          obtain ⟨j,rb,hj,rfl,rfl,HRb,hL3,hE3⟩:=hrel;generalize wr=X at *;obtain ⟨b,hb⟩ : ∃b,b=d+(j+1):=⟨_,rfl⟩
          rw [<-hb]
          by_cases hjl:j<i-1
          ·have hba:b<a:=by omega
           have hji:(b:Int)<(a:Int):=by omega
           have HN3:=hid (show (KM c d j ls3).length=d+i by rw [Kbw];exact HN2.out);obtain ⟨gy,cy,eady,c1y,cz,o1,_⟩:=hL3.out.ln (d:=d) (i:=j+1) (by omega) hcn;obtain ⟨gt,ct,eadt,c1t,czt,ot,_⟩:=hL3.out.el (i:=d) (by omega) hcn;rw [<-hb] at eady c1y o1;obtain ⟨z,hz⟩ : ∃z,z=cols c d (KM c d j ls3) (j+1):=⟨_,rfl⟩
           obtain ⟨y,hy⟩ : ∃y,y=cols c d (KM c d j ls3) 0:=⟨_,rfl⟩
           have hyt:en (KM c d j ls3) d c=y:=by rw [hy];rfl
           rw [<-hz] at cz;rw [hyt] at czt
           have hy0:y≠0:=by
            rw [hy];unfold cols;rw [ZA c d _ (by rw [HN2.out];omega),if_neg (by omega)];exact Hz2.out
           have hA1:=HR.out j hj (j+1) (by omega);have hA0:=HR.out j hj 0 (by omega);rw [<-hb] at hA1;have hzE:z.natAbs<2^(kb*(i+2)+2):=by rw [hz];have:=HR.out j hj (j+1) (by omega);exact this.col (Q:=λz=>z.natAbs<2^(kb*(i+2)+2)) (Nat.pow_pos (by omega)) c
           have hyE:y.natAbs<2^(kb*(i+2)+2):=by rw [hy];exact hA0.col (Q:=λz=>z.natAbs<2^(kb*(i+2)+2)) (Nat.pow_pos (by omega)) c
           have hqE:(z.fdiv y).natAbs<2^(kb*(i+2)+2):=Nat.lt_of_le_of_lt (Zi z hy0) hzE;have hstep:=KcJ c d j ls3 (by rw [HN2.out];omega);rw [<-hz,<-hy,<-hb] at hstep;have Hzl:Hid (nd z<LIM):=by have:=Kv hzE;have:=Hbig.out;exact hid (by omega)
           have Hyl:Hid (nd y<LIM):=by have:=Kv hyE;have:=Hbig.out;exact hid (by omega)
           have Hl:=hid (λW (hW:Ext X W)=>KdR (w0:=w0) (w:=W) (i:=b) (t:=d) (hL3.out.ext hW) hnp hn2 hba hdL (by omega) eady eadt hA1 hA0 hqE Hbig.out HL.out (hE3.trans hW));have Hstep:=hid hstep;have Hy0:=hid hy0;obtain ⟨rm,hrm⟩ : ∃rm,rm=z.fmod y:=⟨_,rfl⟩
           have hitr:(Lib.itoa rm==[48])=decide (rm=0):=KB rm;have Hrm:=hid (show rm=(cols c d ls3 (j+1)).fmod (cols c d ls3 0) by rw [hrm,hz,hy,KeS (by rw [HN2.out];omega),Kbc (by rw [HN2.out];omega)]);have Hb:=hid hb;have hidx:(Value.int .i64 ((b:Int)+1)) = .int .i64 ((d+(j+1+1):Nat):Int):=by rw [show ((d+(j+1+1):Nat):Int)=(b:Int)+1 by omega]
           have Hidx:=hid hidx;have k1:=cell_regrown cz;have k2:=cell_regrown czt;have k3:=cell_regrown c1y;have k4:=cell_regrown c1t;have bD:=hid (Qn (w:=X) (λW h=>Qf (a:=z) (b:=y) (w:=W) Hzl.out Hyl.out Hy0.out (HL.out.ext (hE3.trans h))));rw [<-hrm] at bD;clear hy hz eady eadt o1 ot hA1 hA0 hzE hyE hqE hstep hyt hy0 hidx hb hrm;go_wp2_with fail;refine wp_region_quiet_below (by kernel_rfl) (by kernel_rfl) ?_
           repeat (quiet_step (exact bD.out _ _))
           refine wpQuiet_nil ?_;intro _ hw';obtain ⟨⟨dq,osq⟩,hw''⟩:=hw';subst hw'';have hE6:=Kk X dq osq;have m3:=k3 dq osq;have m4:=k4 dq osq;clear bD k1 k2 k3 k4;generalize hW6:grow (redrawn _ _) _=W6 at *;have n3:=cell_regrown m3;have n4:=cell_regrown m4;clear hW6 m3 m4;go_wp2_with fail;refine Km 9 (by kernel_rfl) (by kernel_rfl) ?_;simp only [List.take_succ_cons,List.take_zero,List.drop_succ_cons,List.drop_zero]
           repeat (quiet_step (fail))
           refine wpQuiet_nil ?_;intro _ hw';obtain ⟨⟨dq,osq⟩,hw''⟩:=hw';subst hw'';have hE7:=hE6.trans (Kk _ dq osq);clear n3 n4;generalize hW7:grow (redrawn _ _) _=W7 at *;clear hW7;go_wp2_with fail;refine (Hl.out _ hE7).mono ?_;rintro e W8 ⟨rfl,hG8,hE8,_⟩;rw [show d+0=d from rfl] at Hstep;rw [<-Hstep.out] at hG8;have HG8:=hid hG8;clear hG8 Hl;have Hrb:=hid (KoV HRb.out Hrm.out)
           by_cases hr0:rm=0
           ·rw [decide_eq_true hr0] at hitr;have Hr0:=hid hr0;clear hr0;have Hrb2:=hid (Hrb.out.1 Hr0.out);clear Hrb HRb
            cases rb with
            | true =>
             go_wp2_with fail;go_roundw
             case rel=>exact ⟨j+1,true,by omega,Hidx.out,rfl,Hrb2,HG8,hE8⟩
             case measure=>simp [intOf]<;>omega
            | false =>
             go_wp2_with fail;go_roundw
             case rel=>exact ⟨j+1,false,by omega,Hidx.out,by simp,Hrb2,HG8,hE8⟩
             case measure=>simp [intOf]<;>omega
           ·rw [decide_eq_false hr0] at hitr;have Hr0:=hid hr0;clear hr0;have Hrb2:=hid (Hrb.out.2 Hr0.out);clear Hrb HRb
            cases rb with
            | true =>
             go_wp2_with fail;go_roundw
             case rel=>exact ⟨j+1,true,by omega,Hidx.out,rfl,Hrb2,HG8,hE8⟩
             case measure=>simp [intOf]<;>omega
            | false =>
             go_wp2_with fail;go_roundw
             case rel=>exact ⟨j+1,true,by omega,Hidx.out,by simp,Hrb2,HG8,hE8⟩
             case measure=>simp [intOf]<;>omega
          ·have hba : ¬(b:Int)<(a:Int):=by omega
           have hje:j=i-1:=by omega
           subst hje;clear hb;have HHa:=hid (show ∀t,t<i->t≠0->cols c d (KM c d (i-1) ls3) t=(cols c d ls3 t).fmod (cols c d ls3 0) from λt ht h0=>KgT HN2.out hd2 ht h0)
           cases rb with
           | true =>
            have hc1:Zu (cols c d ls2) i≠1:=λhc=>by
             obtain ⟨t,t1,t2,t3⟩:=RbR.yes HRb.out;rw [Hone.out hc t (by omega) (by omega),Int.zero_fmod] at t3;exact t3 rfl
            have Hls:=hid (Hless.out hc1);clear hc1;go_wp2_with fail
            go_roundg (sm (cols c d (KM c d (i-1) ls3)) i)
            case measure=>rw [hK.out.1];exact Hls.out
            case rel=>exact ⟨ad3,_,rfl,hL3,hE3,hid ⟨rfl,HG3.out,HO2.out.trans (Kay c d ls3 (i-1) (by rw [HN2.out];omega))⟩⟩
           | false =>
            obtain ⟨ls4,hls4⟩ : ∃ls4,ls4=KM c d (i-1) ls3:=⟨_,rfl⟩
            have Hls4:=hid hls4
            have HSW:=hid (show SwR c d i kb ls1 ls4 true from by
             rw [hls4];refine ⟨HO2.out.trans (Kay c d ls3 (i-1) (by rw [HN2.out];omega)),HG3.out.lt,λh=>(by cases h),λ_=>⟨by omega,?_,λt h0 ht => ?_⟩⟩
             ·rw [Kbc (by rw [HN2.out];omega)];exact Hz2.out
             ·rw [HHa.out t ht (by omega)]
              rcases Decidable.em ((cols c d ls3 t).fmod (cols c d ls3 0)=0) with h | h
              ·exact h
              ·exact absurd h (λh=>RbR.no HRb.out ⟨t,h0,by omega,h⟩))
            have HG4:=hid (show Lr w0.heap.size X g cap a n ad3 ls4 by rw [hls4];exact hL3.out);have HA4:=hid (HSW.out.all HN1.out (by rw [Hkb.out];exact hK1.out.2.2));have HZ4:=hid (HSW.out.yes rfl).2.1;clear hls4 HRb HHa hL3 hG4 HR HG3 HO2 Hless Hone Hz2 Hm2;obtain ⟨gx0,cx0,ead,c1,cz,o1,hgx⟩:=HG4.out.el hdL hcn;obtain ⟨z,hzz⟩ : ∃z,z=en ls4 d c:=⟨_,rfl⟩
            rw [<-hzz] at cz;have Hz:=hid hzz;have hz0:z≠0:=by rw [hzz];exact HZ4.out
            have hdN':(d:Int)<(a:Int):=by omega
            have hcn':(c:Int)<(n:Int):=by omega
            have HS:=hid (ZJ z);have HT:=hid (λW (hW:Ext X W)=>Kk7 (w0:=w0) (w:=W) (i:=d) (HG4.out.ext hW) (by omega) hn2 hdL ead (HA4.out d (by rw [HG4.out.len];exact hdL)) Hbig.out (hE3.trans hW));have Hll:=hid HG4.out.len;obtain ⟨ls5,hls5⟩ : ∃ls5,ls5=Zc c d ls4:=⟨_,rfl⟩
            have Hls5:=hid hls5;clear hzz o1 ead hgx hls5
            rcases Int.lt_or_gt_of_ne hz0 with hz1 | hz1
            focus
             have hs1:z.sign = -1:=Int.sign_eq_neg_one_of_neg hz1;have hP:=hid (show ls4.set d (lneg (ls4.getD d default))=Zc c d ls4 by unfold Zc;rw [if_pos (by rw [<-Hz.out];exact hz1)]);rw [hs1] at HS;clear hs1 hz1 hz0;go_wp2_with fail;refine (HS.out _).mono ?_;rintro e W3 ⟨rfl,hE5⟩;replace c1:=hE5.cell c1;go_wp2_with fail;refine (HT.out _ hE5).mono ?_;rintro e W4 ⟨rfl,hG5,hE6,hC4⟩;rw [hP.out,<-Hls5.out] at hG5;have HG5:=hid hG5;clear hC4 hE5 HT HS c1 cz hG5;go_wp2_with fail
            rotate_left
            focus
             have hs1:z.sign=1:=Int.sign_eq_one_of_pos hz1;have hP:=hid (show ls4=Zc c d ls4 by unfold Zc;rw [if_neg (by rw [<-Hz.out];omega)]);rw [hs1] at HS;clear hs1 hz1 hz0;go_wp2_with fail;refine (HS.out _).mono ?_;rintro e W4 ⟨rfl,hE5⟩;have hG5:=HG4.out.ext hE5;rw [hP.out,<-Hls5.out] at hG5;have HG5:=hid hG5;have hE6:=hE3.trans hE5;clear hE5 HT HS c1 cz hG5;go_wp2_with fail
            all_goals
             have HA3:=hid (show Yr (kb*(i+2)+2) ls5 by rw [Hls5.out];exact HA4.out.pos (c:=c) (d:=d) (by rw [Hll.out];exact hdL));have HN5:=hid (show ls5.length=a by rw [Hls5.out,ZE];exact Hll.out)
             have HZ5:=hid (show en ls5 d c≠0 by
              rw [Hls5.out,XD (by rw [Hll.out];exact hdL)];have:en ls4 d c≠0:=HZ4.out
              split<;>omega)
             have hR5 : ∀j,j<=d -> ∀t,t<a->t=d\/j<=t->All (λz=>z.natAbs<2^(kb*(i+2)+2)) ((QB c d j ls5).getD t default):=λj hj t ht ht2=>by
              rw [Zt c d j (by rw [HN5.out];exact ht),if_neg (by omega)];exact HA3.out t (by rw [HN5.out];exact ht)
             have HR5:=hid hR5;have hgW:=HG5.out.base;clear hR5 HG4
             go_loopw [143] (λidx wr => ∃j:Nat,j<=d/\idx = .int .i64 j/\Hid (Lr w0.heap.size wr g cap a n ad3 (QB c d j ls5))/\Ext w0 wr) (λidx _=>d-(intOf idx).toNat)
             case atStart=>exact ⟨0,by omega,by go_num,by rw [KaQ];exact HG5,hE6⟩
             case round =>
              clear HG5 hE6;obtain ⟨j,hj,rfl,hG5,hE5⟩:=hrel;generalize wr=Q at *
              by_cases hjl:j<d
              ·have hji:(j:Int)<(d:Int):=by omega
               have hjN:(j:Int)<(a:Int):=by omega
               obtain ⟨gx',cx',ead',c1',cz',o1',hgx'⟩:=hG5.out.el (i:=j) (by omega) hcn;obtain ⟨gt,ct,eadt,c1t,czt,ot,hgt⟩:=hG5.out.el (i:=d) (by omega) hcn;obtain ⟨z',hz'⟩ : ∃z',z'=en (QB c d j ls5) j c:=⟨_,rfl⟩
               obtain ⟨y',hy'⟩ : ∃y',y'=en (QB c d j ls5) d c:=⟨_,rfl⟩
               rw [<-hz'] at cz';rw [<-hy'] at czt
               have hy0:y'≠0:=by
                rw [hy'];have:=HZ5.out;unfold en at this ⊢;rw [Zt c d j (by rw [HN5.out];exact hdL),if_neg (by omega)];exact this
               have hA1:=HR5.out j hj j (by omega) (by omega);have hA0:=HR5.out j hj d (by omega) (by omega);have hzE:z'.natAbs<2^(kb*(i+2)+2):=by rw [hz'];exact hA1.col (Q:=λz=>z.natAbs<2^(kb*(i+2)+2)) (Nat.pow_pos (by omega)) c
               have hyE:y'.natAbs<2^(kb*(i+2)+2):=by rw [hy'];exact hA0.col (Q:=λz=>z.natAbs<2^(kb*(i+2)+2)) (Nat.pow_pos (by omega)) c
               have hqE:(z'.fdiv y').natAbs<2^(kb*(i+2)+2):=Nat.lt_of_le_of_lt (Zi z' hy0) hzE;have hstep:=KaP c d j ls5 hjl (by rw [HN5.out];exact hdL);have hz2:col c ((QB c d j ls5).getD j default)=z':=by rw [hz'];rfl
               have hy2:col c ((QB c d j ls5).getD d default)=y':=by rw [hy'];rfl
               rw [hz2,hy2] at hstep;have Hzl:Hid (nd z'<LIM):=by have:=Kv hzE;have:=Hbig.out;exact hid (by omega)
               have Hyl:Hid (nd y'<LIM):=by have:=Kv hyE;have:=Hbig.out;exact hid (by omega)
               have Hl:=hid (λW (hW:Ext Q W)=>KdR (w0:=w0) (w:=W) (i:=j) (t:=d) (hG5.out.ext hW) (by omega) hn2 (by omega) hdL (by omega) ead' eadt hA1 hA0 hqE Hbig.out HL.out (hE5.trans hW));have Hstep:=hid hstep;have Hy0:=hid hy0;have k1:=cell_regrown cz';have k2:=cell_regrown czt;have k3:=cell_regrown c1';have k4:=cell_regrown c1t;have bD:=hid (Qn (w:=Q) (λW h=>Qf (a:=z') (b:=y') (w:=W) Hzl.out Hyl.out Hy0.out (HL.out.ext (hE5.trans h))));clear hy' hz' ead' eadt o1' ot hA1 hA0 hzE hyE hqE hstep hy0 hz2 hy2 hgx' hgt hG5;go_wp2_with fail;refine wp_region_quiet_below (by kernel_rfl) (by kernel_rfl) ?_
               repeat (quiet_step (exact bD.out _ _))
               refine wpQuiet_nil ?_;intro _ hw';obtain ⟨⟨dq,osq⟩,hw''⟩:=hw';subst hw'';have hE6:=Kk Q dq osq;have m3:=k3 dq osq;have m4:=k4 dq osq;clear bD k1 k2 k3 k4;generalize hW6:grow (redrawn _ _) _=W6 at *;have n3:=cell_regrown m3;have n4:=cell_regrown m4;clear hW6 m3 m4;go_wp2_with fail;refine Km 9 (by kernel_rfl) (by kernel_rfl) ?_;simp only [List.take_succ_cons,List.take_zero,List.drop_succ_cons,List.drop_zero]
               repeat (quiet_step (fail))
               refine wpQuiet_nil ?_;intro _ hw';obtain ⟨⟨dq,osq⟩,hw''⟩:=hw';subst hw'';have hE7:=hE6.trans (Kk _ dq osq);clear n3 n4;generalize hW7:grow (redrawn _ _) _=W7 at *;clear hW7;go_wp2_with fail;refine (Hl.out _ hE7).mono ?_;rintro e W8 ⟨rfl,hG8,hE8,_⟩;rw [<-Hstep.out] at hG8;have HG8:=hid hG8;clear hG8 Hl;go_wp2_with fail;go_roundw
               case rel=>exact ⟨j+1,by omega,by go_num,HG8,hE8⟩
               case measure=>simp [intOf]<;>omega
              ·have hje:j=d:=by omega
               subst hje;have HGf:=hid (show Lr w0.heap.size Q g cap a n ad3 (QB c j j (Zc c j ls4)) by rw [<-Hls5.out];exact hG5.out);clear hG5;go_wp2_with fail;go_roundw
               case rel =>
                have hld:j<ls4.length:=by rw [Hll.out];exact hdL
                refine ⟨c+1,j+1,_,_,_,by omega,by omega,by go_num,by go_num,HGf,hE5,hid ⟨hK1.out.1.next hG1.out.dim HN1.out HSW.out,(hK1.out.2.1.trans (HSW.out.ops.mono (by omega))).trans (((Kb9 c j _ hld).mono (by omega)).trans (KbR c j _ (by rw [ZE];exact hld) j (Nat.le_refl _))),?_⟩⟩;refine ((HA4.out.pos (c:=c) (d:=j) hld).abv (c:=c) (d:=j) (j:=j) (by rw [ZE];exact hld) ?_).mono (by have:=Hbn.out;omega);rw [XD hld];have:en ls4 j c≠0:=HZ4.out;split<;>omega
               case measure=>simp [intOf]<;>omega
   ·have hde:d=N:=by omega
    have hdi : ¬(d:Int)<(N:Int):=by omega
    go_wp2_with fail;go_ret;exact Hfin.out _ _ (Ext.refl _) (.inr hde) (by subst hde;rfl)
  ·have hce:c=n:=by omega
   have hci : ¬(c:Int)<(n:Int):=by omega
   go_wp2_with fail;go_ret;exact Hfin.out _ _ (Ext.refl _) (.inl hce) rfl
end
section
open Hnf
theorem KqF {ps:List Nat} {F:Mx} (hl:ps.length=F.length) {g:Nat×V} (h:g∈wps ps F) : ∃i,i<F.length/\g.1=ps.getD i 0/\g.2=vr (F.getD i []):=by
 unfold wps at h;obtain ⟨x,hx,rfl⟩:=List.mem_map.1 h;obtain ⟨i,hi,rfl⟩:=List.getElem_of_mem hx;simp only [List.length_zip] at hi;refine ⟨i,by omega,?_,?_⟩
 ·rw [Ka (by omega)];simp
 ·rw [Ka (by omega)];simp
theorem IsH.lead {m p:Nat} {qs:List Nat} {K:Mx} (hI:IsH m qs K) {v:V} (hs:Ko (KF K) v) (hv:v p≠0) (h0 : ∀i,i<p->v i=0) : ∃i,i<K.length/\qs.getD i 0=p/\eM K i p∣v p:=by
 rw [<-Zl hI.len] at hs;obtain ⟨g,hg,hp,hd⟩:=hI.ech.lead hs hv h0;obtain ⟨i,hi,h1,h2⟩:=KqF hI.len hg;exact ⟨i,hi,by rw [<-h1,hp],by rw [h2] at hd;exact hd⟩
def two (a b:Int):V:=λk=>if k=0 then a else if k=1 then b else 0
end
end Go.Proofs.YtdmaofimeknkbaaGreatDoor
