/- Part 20 of the proof of the claim: contracts of the functions that it reaches, and plain laws; no condition. -/
import Derived.Test.YtdmaofimeknkbaaGreatDoorQ19
set_option maxRecDepth 100000
set_option maxHeartbeats 20000000
namespace Go.Proofs.YtdmaofimeknkbaaGreatDoor
section
open Go.RowKit Go.Sort
open Lib (hid)
theorem Gr.el {B:Nat} {w:World} {g cap N n i c:Nat} {ad:List (Nat×Nat)} {ls:List Ln} (h:Gr B w g cap N n ad ls) (hi:i<N) (hc:c<n) :
  ∃gx cx,ad[i]? = some (gx,cx)/\w.cell? ⟨g,i,none⟩=some (slv gx n cx)/\w.cell? ⟨gx,c,none⟩=some (I (en ls i c))/\Kd 45 B w gx cx (ss (ls.getD i default).1)/\gx≠g:=by
 obtain ⟨gx,cx,h1,h2,h3,h4,h5⟩:=h.ln (d:=i) (i:=0) (by omega) hc;exact ⟨gx,cx,h1,h2,h3,h4,h5⟩
theorem KiC {w0 w:World} {g cap N n d c E:Nat} {ad:List (Nat×Nat)} {ls:List Ln} (hG:Gr w0.heap.size w g cap N n ad ls) (hdN:d<N) (hcn:c<n) (hn2:n<=1000000) (hN:N<=1000000) (hA:Yr E ls) (hz:en ls d c≠0) (hEL:2*E+2<LIM) (hL:Laid w0) (hE0:Ext w0 w) :
  Calls Tryz.prog 135 #[slv g N cap,.int .i64 d,.int .i64 c] w λe w'=>e = .returned (.tuple #[])/\Gr w0.heap.size w' g cap N n ad (QB c d d (Zc c d ls))/\Ext w0 w':=by
 have HL:=hid hL;have HEL:=hid hEL;have HA:=hid hA;have HZ:=hid hz;obtain ⟨gx,cx,ead,c1,cz,o1,hgx⟩:=hG.el hdN hcn;obtain ⟨z,hzz⟩ : ∃z,z=en ls d c:=⟨_,rfl⟩
 rw [<-hzz] at cz;have Hz:=hid hzz;have hz0:z≠0:=by rw [hzz];exact hz
 have Ead:=hid ead;have HG:=hid hG;have hdN':(d:Int)<(N:Int):=by omega
 have hcn':(c:Int)<(n:Int):=by omega
 have HS:=hid (ZJ z);have hll:=hG.len;have Hll:=hid hll;have HT:=hid (λW (hW:Ext w W)=>Kje (w0:=w0) (w:=W) (i:=d) (hG.ext hW) (by omega) hn2 hdN ead (hA d (by omega)) hEL (hE0.trans hW));obtain ⟨ls3,hls3⟩ : ∃ls3,ls3=Zc c d ls:=⟨_,rfl⟩
 rw [<-hls3];have Hls3:=hid hls3;clear hL hEL hA hz hzz o1 ead hG hll hgx hls3
 go_enter Tryz.func135,Tryz.ntmps135
 rcases Int.lt_or_gt_of_ne hz0 with hz1 | hz1
 focus
  have hs1:z.sign = -1:=Int.sign_eq_neg_one_of_neg hz1;have hP:=hid (show ls.set d (lneg (ls.getD d default))=Zc c d ls by unfold Zc;rw [if_pos (by rw [<-Hz.out];exact hz1)]);rw [hs1] at HS;clear hs1 hz1 hz0;go_wp2_with fail;refine (HS.out _).mono ?_;rintro e W3 ⟨rfl,hE3⟩;replace c1:=hE3.cell c1;go_wp2_with fail;refine (HT.out _ hE3).mono ?_;rintro e W4 ⟨rfl,hG4,hE4,hC4⟩;rw [hP.out,<-Hls3.out] at hG4;clear hC4 hE3 HT HS c1 cz;go_wp2_with fail
 rotate_left
 focus
  have hs1:z.sign=1:=Int.sign_eq_one_of_pos hz1;have hP:=hid (show ls=Zc c d ls by unfold Zc;rw [if_neg (by rw [<-Hz.out];omega)]);rw [hs1] at HS;clear hs1 hz1 hz0;go_wp2_with fail;refine (HS.out _).mono ?_;rintro e W4 ⟨rfl,hE3⟩;have hG4:=HG.out.ext hE3;rw [hP.out,<-Hls3.out] at hG4;have hE4:=hE0.trans hE3;clear hE3 HT HS c1 cz;go_wp2_with fail
 all_goals
  have HA3:=hid (show Yr E ls3 by rw [Hls3.out];exact HA.out.pos (c:=c) (d:=d) (by rw [Hll.out];exact hdN));have HN3:=hid (show ls3.length=N by rw [Hls3.out,ZE];exact Hll.out)
  have HZ3:=hid (show en ls3 d c≠0 by
   rw [Hls3.out,XD (by rw [Hll.out];exact hdN)];have:en ls d c≠0:=HZ.out
   split<;>omega)
  have hR : ∀j,j<=d -> ∀t,t<N->t=d\/j<=t->All (λz=>z.natAbs<2^E) ((QB c d j ls3).getD t default):=λj hj t ht ht2=>by
   rw [Zt c d j (by rw [HN3.out];exact ht),if_neg (by omega)];exact HA3.out t (by rw [HN3.out];exact ht)
  have HR:=hid hR;have hgW:=hG4.base;clear hR HG
  go_loopw [25] (λidx wr => ∃j:Nat,j<=d/\idx = .int .i64 j/\Gr w0.heap.size wr g cap N n ad (QB c d j ls3)/\Ext w0 wr) (λidx _=>d-(intOf idx).toNat)
  case atStart=>exact ⟨0,by omega,by go_num,by rw [KaQ];exact hG4,hE4⟩
  case round =>
   obtain ⟨j,hj,rfl,hG5,hE5⟩:=hrel;generalize wr=X at *
   by_cases hjl:j<d
   ·have hji:(j:Int)<(d:Int):=by omega
    have hjN:(j:Int)<(N:Int):=by omega
    obtain ⟨gx',cx',ead',c1',cz',o1',hgx'⟩:=hG5.el (i:=j) (by omega) hcn;obtain ⟨gt,ct,eadt,c1t,czt,ot,hgt⟩:=hG5.el (i:=d) (by omega) hcn;obtain ⟨z',hz'⟩ : ∃z',z'=en (QB c d j ls3) j c:=⟨_,rfl⟩
    obtain ⟨y',hy'⟩ : ∃y',y'=en (QB c d j ls3) d c:=⟨_,rfl⟩
    rw [<-hz'] at cz';rw [<-hy'] at czt
    have hy0:y'≠0:=by
     rw [hy'];have:=HZ3.out;unfold en at this ⊢;rw [Zt c d j (by rw [HN3.out];exact hdN),if_neg (by omega)];exact this
    have hA1:=HR.out j hj j (by omega) (by omega);have hA0:=HR.out j hj d (by omega) (by omega);have hzE:z'.natAbs<2^E:=by rw [hz'];exact hA1.col (Q:=λz=>z.natAbs<2^E) (Nat.pow_pos (by omega)) c
    have hyE:y'.natAbs<2^E:=by rw [hy'];exact hA0.col (Q:=λz=>z.natAbs<2^E) (Nat.pow_pos (by omega)) c
    have hqE:(z'.fdiv y').natAbs<2^E:=Nat.lt_of_le_of_lt (Zi z' hy0) hzE;have hstep:=KaP c d j ls3 hjl (by rw [HN3.out];exact hdN);have hz2:col c ((QB c d j ls3).getD j default)=z':=by rw [hz'];rfl
    have hy2:col c ((QB c d j ls3).getD d default)=y':=by rw [hy'];rfl
    rw [hz2,hy2] at hstep;have Hzl:Hid (nd z'<LIM):=by have:=Kv hzE;have:=HEL.out;exact hid (by omega)
    have Hyl:Hid (nd y'<LIM):=by have:=Kv hyE;have:=HEL.out;exact hid (by omega)
    have Hl:=hid (λW (hW:Ext X W)=>KeE (w0:=w0) (w:=W) (i:=j) (t:=d) (hG5.ext hW) (by omega) hn2 (by omega) hdN (by omega) ead' eadt hA1 hA0 hqE HEL.out HL.out (hE5.trans hW));have Hstep:=hid hstep;have Hy0:=hid hy0;have k1:=cell_regrown cz';have k2:=cell_regrown czt;have k3:=cell_regrown c1';have k4:=cell_regrown c1t;have bD:=hid (Qn (w:=X) (λW h=>Qf (a:=z') (b:=y') (w:=W) Hzl.out Hyl.out Hy0.out (HL.out.ext (hE5.trans h))));clear hy' hz' ead' eadt o1' ot hA1 hA0 hzE hyE hqE hstep hy0 hz2 hy2 hgx' hgt hG4 hG5;go_wp2_with fail;refine wp_region_quiet_below (by kernel_rfl) (by kernel_rfl) ?_
    repeat (quiet_step (exact bD.out _ _))
    refine wpQuiet_nil ?_;intro _ hw';obtain ⟨⟨dq,osq⟩,hw''⟩:=hw';subst hw'';have hE6:=Kk X dq osq;have m3:=k3 dq osq;have m4:=k4 dq osq;clear bD k1 k2 k3 k4;generalize hW6:grow (redrawn _ _) _=W6 at *;have n3:=cell_regrown m3;have n4:=cell_regrown m4;clear hW6 m3 m4;go_wp2_with fail;refine Km 9 (by kernel_rfl) (by kernel_rfl) ?_;simp only [List.take_succ_cons,List.take_zero,List.drop_succ_cons,List.drop_zero]
    repeat (quiet_step (fail))
    refine wpQuiet_nil ?_;intro _ hw';obtain ⟨⟨dq,osq⟩,hw''⟩:=hw';subst hw'';have hE7:=hE6.trans (Kk _ dq osq);clear n3 n4;generalize hW7:grow (redrawn _ _) _=W7 at *;clear hW7;go_wp2_with fail;refine (Hl.out _ hE7).mono ?_;rintro e W8 ⟨rfl,hG8,hE8,_⟩;rw [<-Hstep.out] at hG8;go_wp2_with fail;go_roundw
    case rel=>exact ⟨j+1,by omega,by go_num,hG8,hE8⟩
    case measure=>simp [intOf]<;>omega
   ·have hje:j=d:=by omega
    subst hje;go_wp2_with fail
    go_end0
    exact ⟨rfl,hG5,hE5⟩
theorem KgQ {f:Nat->Int} : ∀{i},(∀t,t<i->f t=0)->Zu f i=0
 | 0,_=>rfl
 | i+1,h=>by rw [Zu,if_pos (h i (by omega)),KgQ (λt ht=>h t (by omega))]
def BsR (f:Nat->Int) (d i:Nat) (kv:Int) (mv:Bool):Prop :=
 (kv = -1/\mv=false /\ ∀t,t<i->f t=0) \/ ∃p:Nat,p<i/\kv=((d+p:Nat):Int)/\f p≠0/\(∀t,t<i->f t≠0->(f p).natAbs<=(f t).natAbs)/\mv=decide (1<Zu f i)
theorem KjF {f:Nat->Int} {d i:Nat} {kv:Int} {mv:Bool} (h:BsR f d i kv mv) (hz:f i=0):BsR f d (i+1) kv mv:=by
 rcases h with ⟨h1,h2,h3⟩ | ⟨p,hp,h1,h2,h3,h4⟩
 ·exact .inl ⟨h1,h2,λt ht=>by
   by_cases e:t=i
   ·subst e;exact hz
   ·exact h3 t (by omega)⟩
 ·refine .inr ⟨p,by omega,h1,h2,λt ht hn => ?_,by rw [Zu,if_pos hz];exact h4⟩
  by_cases e:t=i
  ·subst e;exact absurd hz hn
  ·exact h3 t (by omega) hn
theorem KgM {f:Nat->Int} {d i:Nat} (h : ∀t,t<i->f t=0) (hz:f i≠0):BsR f d (i+1) ((d+i:Nat):Int) false:=by
 refine .inr ⟨i,by omega,rfl,hz,λt ht hn => ?_,?_⟩
 ·by_cases e:t=i
  ·subst e;exact Nat.le_refl _
  ·exact absurd (h t (by omega)) hn
 ·rw [Zu,if_neg hz,KgQ h];rfl
theorem KjE {f:Nat->Int} {d i p:Nat} (hp:p<i) (hpz:f p≠0) (h : ∀t,t<i->f t≠0->(f p).natAbs<=(f t).natAbs) (hz:f i≠0) (hlt:(f i).natAbs<(f p).natAbs):BsR f d (i+1) ((d+i:Nat):Int) true:=by
 refine .inr ⟨i,by omega,rfl,hz,λt ht hn => ?_,?_⟩
 ·by_cases e:t=i
  ·subst e;exact Nat.le_refl _
  ·have:=h t (by omega) hn;omega
 ·have:=Jd hpz hp;rw [Zu,if_neg hz,decide_eq_true (by omega)]
theorem KjD {f:Nat->Int} {d i p:Nat} (hp:p<i) (hpz:f p≠0) (h : ∀t,t<i->f t≠0->(f p).natAbs<=(f t).natAbs) (hz:f i≠0) (hlt:(f p).natAbs<=(f i).natAbs):BsR f d (i+1) ((d+p:Nat):Int) true:=by
 refine .inr ⟨p,by omega,rfl,hpz,λt ht hn => ?_,?_⟩
 ·by_cases e:t=i
  ·subst e;exact hlt
  ·exact h t (by omega) hn
 ·have:=Jd hpz hp;rw [Zu,if_neg hz,decide_eq_true (by omega)]
def Kjp (w0:World) (g cap N n k:Nat) (ls:List Ln) (e:Ending) (w':World):Prop :=
 ∃d ps ad' ls',e = .returned (slv g d cap)/\d<=N/\Gr w0.heap.size w' g cap N n ad' ls'/\QF n d ps ls'/\Ops 0 ls ls'/\Yr (bC N k n) ls'/\Ext w0 w'
theorem KeU {w0 w : World} {g cap N n k : Nat} {ad : List (Nat × Nat)} {ls : List Ln} (hG : Gr w0.heap.size w g cap N n ad ls) (hNp : 0 < N) (hnp : 0 < n) (hn2 : n <= 1000000) (hN : N <= 1000000) (hcap : N <= cap)
    (hA:Yr k ls) (hk:2*(2*bC N k n+2)+2<LIM) (hL:Laid w0) (hE:Ext w0 w) :
    Calls Tryz.prog 107 #[slv g N cap,.int .i64 n] w (Kjp w0 g cap N n k ls):=by
  have HL:=hid hL;have Hk:=hid hk;have Hdim:=hid hG.dim;clear hL hk
  go_enter Tryz.func107,Tryz.ntmps107
  go_wp2_with fail
  go_loopw [5,6] (λdn idx wr => ∃(c d:Nat) (ps:List Nat) (ad1:List (Nat×Nat)) (ls1:List Ln),c<=n/\d<=N/\idx = .int .i64 c/\dn = .int .i64 d/\Hid (Gr w0.heap.size wr g cap N n ad1 ls1)/\Ext w0 wr/\Hid (QF c d ps ls1/\Ops 0 ls ls1/\Yr (bC N k c) ls1)) (λ_ idx _=>n-(intOf idx).toNat)
  case atStart=>exact ⟨0,0,[],ad,ls,by omega,by omega,by go_num,by go_num,hid hG,hE,hid ⟨QF.start ls,.refl _,hA⟩⟩
  case round =>
    clear hA hG hE;obtain ⟨c,d,ps,ad1,ls1,hc,hdN,rfl,rfl,hG1,hE1,hK1⟩:=hrel;generalize wr=U at *
    have hfin : ∀W (e:Ending),Ext U W->(c=n\/d=N)->e = .returned (slv g d cap)->Kjp w0 g cap N n k ls e W:=λW e hW hcd he =>
      ⟨d,ps,ad1,ls1,he,hdN,hG1.out.ext hW,by
        rcases hcd with h | h
        · subst h;exact hK1.out.1
        · exact hK1.out.1.full (by rw [hG1.out.len];exact h) hc,hK1.out.2.1,hK1.out.2.2.mono (by
          have:=Kaj N k c (n-c);rwa [show c+(n-c)=n by omega] at this),hE1.trans hW⟩
    have Hfin:=hid hfin;clear hfin;have hdcap:(d:Int)<=(cap:Int):=by omega
    by_cases hcn:c<n
    · have hci:(c:Int)<(n:Int):=by omega
      by_cases hdL:d<N
      · have hdi:(d:Int)<(N:Int):=by omega
        have hbn:=Kjx (L:=N) (N:=N-d) (k:=k) (c:=c) (by omega);have hbm:=Kaj N k (c+1) (n-(c+1));rw [show c+1+(n-(c+1))=n by omega] at hbm;have Hbn:=hid hbn;have Hbm:=hid hbm;obtain ⟨kb,hkb⟩ : ∃kb,kb=bC N k c:=⟨_,rfl⟩
        rw [<-hkb] at Hbn;have Hkb:=hid hkb;have HN1:=hid (show ls1.length=d+(N-d) by rw [hG1.out.len];omega);clear hbn hbm hkb;obtain ⟨M,hM⟩ : ∃M,M=N-d:=⟨_,rfl⟩
        have hMd:d+M=N:=by omega
        rw [<-hM] at HN1 Hbn;clear hM;go_wp2_with fail
        go_loopg [5] (sm (cols c d ls1) M) (λk' dn wr => ∃ad2 ls2,dn = .int .i64 d/\Hid (Gr w0.heap.size wr g cap N n ad2 ls2)/\Ext w0 wr/\Hid (k'=sm (cols c d ls2) M/\GG c d M kb ls2/\Ops d ls1 ls2))
        case atStart=>exact ⟨ad1,ls1,rfl,hG1,hE1,hid ⟨rfl,.inl (λt ht=>by rw [Hkb.out];exact hK1.out.2.2 (d+t) (by rw [HN1.out];omega)),.refl _⟩⟩
        case round =>
          obtain ⟨ad2,ls2,rfl,hG2,hE2,hK⟩:=hrel;have hN2:=hid (show ls2.length=d+M by rw [hK.out.2.2.length];exact HN1.out);have hlt2:=hid hK.out.2.1.lt;have Hbig:=hid (show 2*(kb*(M+2)+2)+2<LIM by have:=Hbn.out;have:=Hbm.out;have:=Hk.out;omega);generalize wr=V at *;go_wp2_with fail
          go_loopw [7,8,9] (λkk mm idx wr => ∃(i:Nat) (kv:Int) (mv:Bool),i<=M/\idx = .int .i64 ((d+i:Nat):Int)/\kk = .int .i64 kv/\mm = .bool mv/\Hid (BsR (cols c d ls2) d i kv mv)/\Ext V wr) (λ_ _ idx _=>N-(intOf idx).toNat)
          case atStart=>exact ⟨0,-1,false,by omega,by simp,rfl,rfl,hid (.inl ⟨rfl,rfl,λt h=>by omega⟩),Ext.refl _⟩
          case round =>
            obtain ⟨i,kv,mv,hi,rfl,rfl,rfl,hB,hEV⟩:=hrel;obtain ⟨a,ha⟩ : ∃a,a=d+i:=⟨_,rfl⟩
            rw [<-ha]
            by_cases hlt:i<M
            · have hii:(a:Int)<(N:Int):=by omega
              obtain ⟨gx,cx,ead,c1,cz,o1,_⟩:=(hG2.out.ext hEV).ln (d:=d) (i:=i) (by omega) hcn;obtain ⟨z,hz⟩ : ∃z,z=cols c d ls2 i:=⟨_,rfl⟩
              have hzE:=hlt2.out i hlt;have hzE2:nd z<=kb*(M+2)+3:=by rw [hz];exact Kv (hzE.col (Q:=λz=>z.natAbs<2^(kb*(M+2)+2)) (Nat.pow_pos (by omega)) c)
              have Hz2:=hid hzE2;rw [<-hz] at cz;rw [<-ha] at c1;have hitz:(Lib.itoa z==[48])=decide (z=0):=KB z;have Hz:=hid hz;have Ha:=hid ha;clear hz o1 ead hzE hzE2;have hidx:(Value.int .i64 ((a:Int)+1)) = .int .i64 ((d+(i+1):Nat):Int):=by rw [show ((d+(i+1):Nat):Int)=(a:Int)+1 by omega]
              have Hidx:=hid hidx;clear hidx ha
              by_cases hz0:z=0
              · rw [decide_eq_true hz0] at hitz
                have Hz0:=hid hz0;clear hz0;go_wp2_with fail;go_roundw
                case rel=>exact ⟨i+1,kv,mv,by omega,Hidx.out,rfl,rfl,hid (KjF hB.out (by rw [<-Hz.out];exact Hz0.out)),hEV⟩
                case measure=>simp [intOf]<;>omega
              · rw [decide_eq_false hz0] at hitz
                have Hz0:=hid hz0;clear hz0
                rcases hB.out with ⟨h1,h2,h3⟩ | ⟨p,hp,h1,hpz,hmin,h4⟩
                · subst h1 h2
                  have Hall:=hid h3;clear h3 hB;go_wp2_with fail
                  go_quiet (fail)
                  go_wp2_with fail;go_roundw
                  case rel=>exact ⟨i+1,_,_,by omega,Hidx.out,by rw [Ha.out],rfl,hid (KgM Hall.out (by rw [<-Hz.out];exact Hz0.out)),hEV.drewN _⟩
                  case measure=>simp [intOf]<;>omega
                · have Hpz:=hid hpz
                  have Hmin:=hid hmin;have Hp:=hid hp;obtain ⟨ap,hap⟩ : ∃ap,ap=d+p:=⟨_,rfl⟩
                  rw [<-hap] at h1;subst h1;obtain ⟨gxp,cxp,eadp,c1p,cy',o1p,_⟩:=(hG2.out.ext hEV).ln (d:=d) (i:=p) (by omega) hcn;have hapN:(ap:Int)<(N:Int):=by omega
                  rw [<-hap] at c1p;obtain ⟨y,hy⟩ : ∃y,y=cols c d ls2 p:=⟨_,rfl⟩
                  have hyE:=hlt2.out p (by omega);have hyE2:nd y<=kb*(M+2)+3:=by rw [hy];exact Kv (hyE.col (Q:=λz=>z.natAbs<2^(kb*(M+2)+2)) (Nat.pow_pos (by omega)) c)
                  rw [<-hy] at cy';have Hy:=hid hy;have Hap:=hid hap;have hzl:nd z<=LIM:=by have:=Hbig.out;have:=Hz2.out;omega
                  have hyl:nd y<=LIM:=by have:=Hbig.out;omega
                  have hzl':nd (z.natAbs:Int)<=LIM:=by unfold nd at *;rw [Int.natAbs_natCast];exact hzl
                  have hyl':nd (y.natAbs:Int)<=LIM:=by unfold nd at *;rw [Int.natAbs_natCast];exact hyl
                  have bA:=hid (λ(t:Int) (ht:nd t<=LIM)=>Qn (w:=wr) (λW h=>(Kag (z:=t) ht W)));have Hzl:=hid hzl;have Hyl:=hid hyl;have k1:=cell_regrown c1;have k2:=cell_regrown cz;have k3:=cell_regrown c1p;have k4:=cell_regrown cy';have b3:=hid (Qn (w:=wr) (λW h=>(JG (a:=(z.natAbs:Int)) (b:=(y.natAbs:Int)) hzl' hyl' W)));have Hcmp:=hid (show Jc z.natAbs y.natAbs<0↔z.natAbs<y.natAbs by unfold Jc;split<;>(try split)<;>omega);obtain ⟨q,hq⟩ : ∃q,q=Jc z.natAbs y.natAbs:=⟨_,rfl⟩
                  rw [<-hq] at b3 Hcmp;have hap0 : ¬(ap:Int)<0:=by omega
                  have hap1:(0:Int)<=(ap:Int):=by omega
                  clear hpz hmin hy hB o1p eadp hyE hyE2 hzl hyl hzl' hyl' hq hap hp h4
                  cases mv
                  all_goals
                   rcases Decidable.em (z.natAbs<y.natAbs) with hzy | hzy
                   · have hq0:q<0:=Hcmp.out.2 hzy
                     have hqd:decide (q<0)=true:=decide_eq_true hq0;have Hzy:=hid hzy;clear hzy;go_wp2_with fail;refine wp_region_quiet_below (by kernel_rfl) (by kernel_rfl) ?_
                     repeat (quiet_step (first | (refine bA.out _ ?_ _ _;first | exact Hzl.out | exact Hyl.out) | exact b3.out _ _))
                     refine wpQuiet_nil ?_;intro _ hw';obtain ⟨⟨dq,osq⟩,hw''⟩:=hw';subst hw'';have hE5:=hEV.trans (Kk _ dq osq);clear bA b3 k1 k2 k3 k4;go_wp2_with fail;go_roundw
                     case rel=>exact ⟨i+1,_,_,by omega,Hidx.out,by rw [Ha.out],by simp,hid (KjE Hp.out Hpz.out Hmin.out (by rw [<-Hz.out];exact Hz0.out) (by rw [<-Hz.out,<-Hy.out];exact Hzy.out)),hE5⟩
                     case measure=>simp [intOf]<;>omega
                   · have hq0:0<=q:=by have:=mt Hcmp.out.1 hzy;omega
                     have hqd:decide (q<0)=false:=decide_eq_false (by omega);have Hzy:=hid hzy;clear hzy;go_wp2_with fail;refine wp_region_quiet_below (by kernel_rfl) (by kernel_rfl) ?_
                     repeat (quiet_step (first | (refine bA.out _ ?_ _ _;first | exact Hzl.out | exact Hyl.out) | exact b3.out _ _))
                     refine wpQuiet_nil ?_;intro _ hw';obtain ⟨⟨dq,osq⟩,hw''⟩:=hw';subst hw'';have hE5:=hEV.trans (Kk _ dq osq);clear bA b3 k1 k2 k3 k4;go_wp2_with fail;go_roundw
                     case rel=>exact ⟨i+1,_,_,by omega,Hidx.out,by rw [Hap.out],by simp,hid (KjD Hp.out Hpz.out Hmin.out (by rw [<-Hz.out];exact Hz0.out) (by rw [<-Hz.out,<-Hy.out];have:=Hzy.out;omega)),hE5⟩
                     case measure=>simp [intOf]<;>omega
            · have hiM:i=M:=by omega
              subst hiM;have haN:a=N:=by omega
              subst haN;clear ha
              rcases hB.out with ⟨h1,h2,h3⟩ | ⟨p,hp,h1,hpz,hmin,h4⟩
              · subst h1 h2
                have HSW:=hid (KnK hK.out.2.2 hK.out.2.1 h3);clear h3 hB;go_wp2_with fail;go_roundw
                case rel=>exact ⟨c+1,d,ps,ad2,ls2,by omega,by omega,by go_num,rfl,hid (hG2.out.ext hEV),hE2.trans hEV,hid ⟨hK1.out.1.skip hG1.out.dim HN1.out HSW.out,hK1.out.2.1.trans (HSW.out.ops.mono (by omega)),(HSW.out.all HN1.out (by rw [Hkb.out];exact hK1.out.2.2)).mono (by have:=Hbn.out;omega)⟩⟩
                case measure=>simp [intOf]<;>omega
              · have Hpz:=hid hpz
                have Hmin:=hid hmin;have hG3:=hG2.out.ext hEV;obtain ⟨ap,hap⟩ : ∃ap,ap=d+p:=⟨_,rfl⟩
                rw [<-hap] at h1;subst h1;obtain ⟨gxp,cxp,eadp,c1p,_,_,_⟩:=hG3.ln (d:=d) (i:=p) (by omega) hcn;obtain ⟨gx,cx,ead,c1,_,_,_⟩:=hG3.el (i:=d) (by omega) hcn;rw [<-hap] at c1p eadp;have hapN:(ap:Int)<(a:Int):=by omega
                have hap0 : ¬(ap:Int)<0:=by omega
                have fz:=hG3.fz;have hS:=hG3.swap hnp hdL (by omega:ap<a) ead eadp;have Hsw:=hid (show swp ls2 d ap=swp ls2 d (d+p) by rw [hap]);have Hp:=hid hp;have hgb:=hG3.base.1;have H4:=hid h4;have Hap:=hid hap;have hd0 : ¬(d:Int)<0:=by omega
                rcases Nat.eq_zero_or_pos p with hp0 | hp0
                focus
                  have hade:ap=d:=by omega
                  rw [hade] at c1p eadp hS Hsw ⊢;have e1:slv gx n cx=slv gxp n cxp:=by rw [c1] at c1p;exact Option.some.inj c1p
                  rw [<-e1] at hS c1p;have HS:=hid hS;clear c1p hpz hmin hB hap hp0 h4 eadp ead e1 hS hp hade;go_wp2_with fail
                  go_region
                  obtain ⟨hS1,hS2⟩:=HS.out;rw [Hsw.out] at hS1
                rotate_left
                focus
                  have d1:ap≠d:=by omega
                  have d2:d≠ap:=by omega
                  have HS:=hid hS;clear hpz hmin hB hap hp0 h4 eadp ead hS hp;go_wp2_with fail
                  go_region
                  obtain ⟨hS1,hS2⟩:=HS.out;rw [Hsw.out] at hS1
                all_goals
                  have hG4:=hid (hS1.ext ((Ext.refl _).drew));have hE4:=(Kb (hE2.trans hEV) hS2 hgb).drew;generalize hW5:World.drew (World.setCell _ _ _)=W5 at *;clear hW5 HS hS1 hS2 c1 hG3;have hM0:0<i:=by have:=Hp.out;omega
                  by_cases hc1:Zu (cols c d ls2) i=1
                  · have HSW:=hid (Ko2 hK.out.2.2 hN2.out hK.out.2.1 Hp.out Hpz.out hc1)
                    have hmv:mv=false:=by rw [H4.out,hc1];rfl
                    subst hmv;have HSA:=hid (HSW.out.all HN1.out (by rw [Hkb.out];exact hK1.out.2.2));have hfn:=hid (KiC hG4.out hdL hcn hn2 hN HSA.out (HSW.out.yes rfl).2.1 Hbig.out HL.out hE4);clear hc1;go_wp2_with fail;refine hfn.out.mono ?_;rintro e W6 ⟨rfl,hG6,hE6⟩;have HG6:=hid hG6;clear hG6 hfn;go_wp2_with fail;go_roundw
                    case rel =>
                      have hld:d<(swp ls2 d (d+p)).length:=by rw [Yp,hN2.out];omega
                      refine ⟨c+1,d+1,_,_,_,by omega,by omega,by go_num,by go_num,HG6,hE6,hid ⟨hK1.out.1.next hG1.out.dim HN1.out HSW.out,(hK1.out.2.1.trans (HSW.out.ops.mono (by omega))).trans (((Kb9 c d _ hld).mono (by omega)).trans (KbR c d _ (by rw [ZE];exact hld) d (Nat.le_refl _))),?_⟩⟩;refine ((HSA.out.pos (c:=c) (d:=d) hld).abv (c:=c) (d:=d) (j:=d) (by rw [ZE];exact hld) ?_).mono (by have:=Hbn.out;omega);rw [XD hld];have:en (swp ls2 d (d+p)) d c≠0:=(HSW.out.yes rfl).2.1;split<;>omega
                    case measure=>simp [intOf]<;>omega
                  · have hcp:=Jd Hpz.out Hp.out
                    have hmv:mv=true:=by rw [H4.out];exact decide_eq_true (by omega)
                    subst hmv
                    have hi2:2<=i:=by
                      obtain ⟨s,hs,hsp,_⟩:=Ke8 hc1 Hpz.out Hp.out;have:=Hp.out;omega
                    have hdd:=hG2.out.dim;have Hless:=hid (Kkd hN2.out hdd Hp.out Hpz.out Hmin.out hc1);have HG2:=hid (hK.out.2.1.swp hN2.out Hp.out);have hd2:Dim n 0 (swp ls2 d (d+p)):=hG4.out.dim;have HN2:=hid (show (swp ls2 d (d+p)).length=d+i by rw [Yp];exact hN2.out);have Hz2:=hid (show cols c d (swp ls2 d (d+p)) 0≠0 by rw [KbI hN2.out Hp.out];exact Hpz.out);have Hm2:=hid (KbG hN2.out Hp.out Hmin.out);have HO2:=hid (Ops.step hK.out.2.2 (KbH (d:=d) (i:=d) (j:=d+p) ls2 (by rw [hN2.out];omega) (by rw [hN2.out];have:=Hp.out;omega) (by omega) (by omega)));generalize hls3:swp ls2 d (d+p)=ls3 at *;generalize sw2 ad2 (0,0) d _=ad3 at *;clear hls3 hcp hc1 Hsw;have HG3:=hid (HG2.out.red HN2.out hd2 Hz2.out Hm2.out)
                    have hR : ∀j,j<=i-1 -> ∀t,t<i->All (λz=>z.natAbs<2^(kb*(i+2)+2)) ((KM c d j ls3).getD (d+t) default):=λj hj t ht=>by
                      have h1:=HG2.out.lt t ht;have h2:=HG3.out.lt t ht;rw [ZA c d _ (by rw [HN2.out];omega)] at h2 ⊢
                      by_cases htj:d<d+t/\d+t<=d+j
                      · rw [if_pos htj];rw [if_pos (by omega)] at h2;exact h2
                      · rw [if_neg htj];exact h1
                    have HR:=hid hR;have hi1:i-1<=i:=by omega
                    clear hR;go_wp2_with fail
                    go_loopw [10] (λidx wr => ∃j:Nat,j<=i-1/\idx = .int .i64 ((d+(j+1):Nat):Int)/\Hid (Gr w0.heap.size wr g cap a n ad3 (KM c d j ls3))/\Ext w0 wr) (λidx _=>a-(intOf idx).toNat)
                    case atStart=>exact ⟨0,by omega,by rw [show ((d+(0+1):Nat):Int)=(d:Int)+1 by omega],by rw [KaZ];exact hG4,hE4⟩
                    case round =>
                      obtain ⟨j,hj,rfl,hL3,hE3⟩:=hrel;generalize wr=X at *;obtain ⟨b,hb⟩ : ∃b,b=d+(j+1):=⟨_,rfl⟩
                      rw [<-hb]
                      by_cases hjl:j<i-1
                      · have hba:b<a:=by omega
                        have hji:(b:Int)<(a:Int):=by omega
                        have HN3:=hid (show (KM c d j ls3).length=d+i by rw [Kbw];exact HN2.out);obtain ⟨gy,cy,eady,c1y,cz,o1,_⟩:=hL3.out.ln (d:=d) (i:=j+1) (by omega) hcn;obtain ⟨gt,ct,eadt,c1t,czt,ot,_⟩:=hL3.out.el (i:=d) (by omega) hcn;rw [<-hb] at eady c1y o1;obtain ⟨z,hz⟩ : ∃z,z=cols c d (KM c d j ls3) (j+1):=⟨_,rfl⟩
                        obtain ⟨y,hy⟩ : ∃y,y=cols c d (KM c d j ls3) 0:=⟨_,rfl⟩
                        have hyt:en (KM c d j ls3) d c=y:=by rw [hy];rfl
                        rw [<-hz] at cz;rw [hyt] at czt
                        have hy0:y≠0:=by
                          rw [hy];unfold cols;rw [ZA c d _ (by rw [HN2.out];omega),if_neg (by omega)];exact Hz2.out
                        have hA1:=HR.out j hj (j+1) (by omega);have hA0:=HR.out j hj 0 (by omega);rw [<-hb] at hA1;have hzE:z.natAbs<2^(kb*(i+2)+2):=by rw [hz];have:=HR.out j hj (j+1) (by omega);exact this.col (Q:=λz=>z.natAbs<2^(kb*(i+2)+2)) (Nat.pow_pos (by omega)) c
                        have hyE:y.natAbs<2^(kb*(i+2)+2):=by rw [hy];exact hA0.col (Q:=λz=>z.natAbs<2^(kb*(i+2)+2)) (Nat.pow_pos (by omega)) c
                        have hqE:(z.fdiv y).natAbs<2^(kb*(i+2)+2):=Nat.lt_of_le_of_lt (Zi z hy0) hzE;have hstep:=KcJ c d j ls3 (by rw [HN2.out];omega);rw [<-hz,<-hy,<-hb] at hstep;have Hzl:Hid (nd z<LIM):=by have:=Kv hzE;have:=Hbig.out;exact hid (by omega)
                        have Hyl:Hid (nd y<LIM):=by have:=Kv hyE;have:=Hbig.out;exact hid (by omega)
                        have Hl:=hid (λW (hW:Ext X W)=>KeE (w0:=w0) (w:=W) (i:=b) (t:=d) (hL3.out.ext hW) hnp hn2 hba hdL (by omega) eady eadt hA1 hA0 hqE Hbig.out HL.out (hE3.trans hW));have Hstep:=hid hstep;have Hy0:=hid hy0;have Hb:=hid hb;have hidx:(Value.int .i64 ((b:Int)+1)) = .int .i64 ((d+(j+1+1):Nat):Int):=by rw [show ((d+(j+1+1):Nat):Int)=(b:Int)+1 by omega]
                        have Hidx:=hid hidx;have k1:=cell_regrown cz;have k2:=cell_regrown czt;have k3:=cell_regrown c1y;have k4:=cell_regrown c1t;have bD:=hid (Qn (w:=X) (λW h=>Qf (a:=z) (b:=y) (w:=W) Hzl.out Hyl.out Hy0.out (HL.out.ext (hE3.trans h))));clear hy hz eady eadt o1 ot hA1 hA0 hzE hyE hqE hstep hyt hy0 hidx hb;go_wp2_with fail;refine wp_region_quiet_below (by kernel_rfl) (by kernel_rfl) ?_
                        repeat (quiet_step (exact bD.out _ _))
                        refine wpQuiet_nil ?_;intro _ hw';obtain ⟨⟨dq,osq⟩,hw''⟩:=hw';subst hw'';have hE6:=Kk X dq osq;have m3:=k3 dq osq;have m4:=k4 dq osq;clear bD k1 k2 k3 k4;generalize hW6:grow (redrawn _ _) _=W6 at *;have n3:=cell_regrown m3;have n4:=cell_regrown m4;clear hW6 m3 m4;go_wp2_with fail;refine Km 9 (by kernel_rfl) (by kernel_rfl) ?_;simp only [List.take_succ_cons,List.take_zero,List.drop_succ_cons,List.drop_zero]
                        repeat (quiet_step (fail))
                        refine wpQuiet_nil ?_;intro _ hw';obtain ⟨⟨dq,osq⟩,hw''⟩:=hw';subst hw'';have hE7:=hE6.trans (Kk _ dq osq);clear n3 n4;generalize hW7:grow (redrawn _ _) _=W7 at *;clear hW7;go_wp2_with fail;refine (Hl.out _ hE7).mono ?_;rintro e W8 ⟨rfl,hG8,hE8,_⟩;rw [show d+0=d from rfl] at Hstep;rw [<-Hstep.out] at hG8;have HG8:=hid hG8;clear hG8 Hl;go_wp2_with fail;go_roundw
                        case rel=>exact ⟨j+1,by omega,Hidx.out,HG8,hE8⟩
                        case measure=>simp [intOf]<;>omega
                      · have hba : ¬(b:Int)<(a:Int):=by omega
                        have hje:j=i-1:=by omega
                        subst hje;clear hb;go_wp2_with fail
                        go_roundg (sm (cols c d (KM c d (i-1) ls3)) i)
                        case measure=>rw [hK.out.1];exact Hless.out
                        case rel=>exact ⟨ad3,_,rfl,hL3,hE3,hid ⟨rfl,HG3.out,HO2.out.trans (Kay c d ls3 (i-1) (by rw [HN2.out];omega))⟩⟩
      · have hde:d=N:=by omega
        have hdi : ¬(d:Int)<(N:Int):=by omega
        go_wp2_with fail;go_ret;exact Hfin.out _ _ (Ext.refl _) (.inr hde) (by subst hde;rfl)
    · have hce:c=n:=by omega
      have hci : ¬(c:Int)<(n:Int):=by omega
      go_wp2_with fail;go_ret;exact Hfin.out _ _ (Ext.refl _) (.inl hce) rfl
end
end Go.Proofs.YtdmaofimeknkbaaGreatDoor
