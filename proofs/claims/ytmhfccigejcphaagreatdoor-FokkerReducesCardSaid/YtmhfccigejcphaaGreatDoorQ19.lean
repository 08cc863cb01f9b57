/- Part 19 of the proof of the claim: contracts of the functions that it reaches, and plain laws; no condition. -/
import Derived.Test.YtmhfccigejcphaaGreatDoorQ18
set_option maxRecDepth 100000
set_option maxHeartbeats 20000000
namespace Go.Proofs.YtmhfccigejcphaaGreatDoor
section
open Go.RowKit Go.Sort
open Lib (hid)
theorem Kgy {f:Nat->Int} : ∀{i},(∀t,t<i->f t=0)->Zq f i=0
 | 0,_=>rfl
 | i+1,h=>by rw [Zq,if_pos (h i (by omega)),Kgy (λt ht=>h t (by omega))]
def BsR (f:Nat->Int) (d i:Nat) (kv:Int) (mv:Bool):Prop :=
 (kv = -1/\mv=false /\ ∀t,t<i->f t=0) \/ ∃p:Nat,p<i/\kv=((d+p:Nat):Int)/\f p≠0/\(∀t,t<i->f t≠0->(f p).natAbs<=(f t).natAbs)/\mv=decide (1<Zq f i)
theorem Kjh {f:Nat->Int} {d i:Nat} {kv:Int} {mv:Bool} (h:BsR f d i kv mv) (hz:f i=0):BsR f d (i+1) kv mv:=by
 rcases h with ⟨h1,h2,h3⟩ | ⟨p,hp,h1,h2,h3,h4⟩
 ·exact .inl ⟨h1,h2,λt ht=>by
   by_cases e:t=i
   ·subst e;exact hz
   ·exact h3 t (by omega)⟩
 ·refine .inr ⟨p,by omega,h1,h2,λt ht hn => ?_,by rw [Zq,if_pos hz];exact h4⟩
  by_cases e:t=i
  ·subst e;exact absurd hz hn
  ·exact h3 t (by omega) hn
theorem Kgs {f:Nat->Int} {d i:Nat} (h : ∀t,t<i->f t=0) (hz:f i≠0):BsR f d (i+1) ((d+i:Nat):Int) false:=by
 refine .inr ⟨i,by omega,rfl,hz,λt ht hn => ?_,?_⟩
 ·by_cases e:t=i
  ·subst e;exact Nat.le_refl _
  ·exact absurd (h t (by omega)) hn
 ·rw [Zq,if_neg hz,Kgy h];rfl
theorem Kjg {f:Nat->Int} {d i p:Nat} (hp:p<i) (hpz:f p≠0) (h : ∀t,t<i->f t≠0->(f p).natAbs<=(f t).natAbs) (hz:f i≠0) (hlt:(f i).natAbs<(f p).natAbs):BsR f d (i+1) ((d+i:Nat):Int) true:=by
 refine .inr ⟨i,by omega,rfl,hz,λt ht hn => ?_,?_⟩
 ·by_cases e:t=i
  ·subst e;exact Nat.le_refl _
  ·have:=h t (by omega) hn;omega
 ·have:=Ja hpz hp;rw [Zq,if_neg hz,decide_eq_true (by omega)]
theorem Kjf {f:Nat->Int} {d i p:Nat} (hp:p<i) (hpz:f p≠0) (h : ∀t,t<i->f t≠0->(f p).natAbs<=(f t).natAbs) (hz:f i≠0) (hlt:(f p).natAbs<=(f i).natAbs):BsR f d (i+1) ((d+p:Nat):Int) true:=by
 refine .inr ⟨p,by omega,rfl,hpz,λt ht hn => ?_,?_⟩
 ·by_cases e:t=i
  ·subst e;exact hlt
  ·exact h t (by omega) hn
 ·have:=Ja hpz hp;rw [Zq,if_neg hz,decide_eq_true (by omega)]
def Ki1 (w0:World) (g cap N n k:Nat) (ls:List Ln) (e:Ending) (w':World):Prop :=
 ∃d ps ad' ls',e = .returned (slv g d cap)/\d<=N/\Gr w0.heap.size w' g cap N n ad' ls'/\QC n d ps ls'/\Ops 0 ls ls'/\Yr (bC N k n) ls'/\Ext w0 w'
theorem KeD {w0 w : World} {g cap N n k : Nat} {ad : List (Nat × Nat)} {ls : List Ln} (hG : Gr w0.heap.size w g cap N n ad ls) (hNp : 0 < N) (hnp : 0 < n) (hn2 : n <= 1000000) (hN : N <= 1000000) (hcap : N <= cap)
    (hA:Yr k ls) (hk:2*(2*bC N k n+2)+2<LIM) (hL:Laid w0) (hE:Ext w0 w) :
    Calls Tryz.prog 211 #[slv g N cap,.int .i64 n] w (Ki1 w0 g cap N n k ls):=by
  have HL:=hid hL;have Hk:=hid hk;have Hdim:=hid hG.dim;clear hL hk
  go_enter Tryz.func211,Tryz.ntmps211
  go_wp2_with fail
  go_loopw [5,6] (λdn idx wr => ∃(c d:Nat) (ps:List Nat) (ad1:List (Nat×Nat)) (ls1:List Ln),c<=n/\d<=N/\idx = .int .i64 c/\dn = .int .i64 d/\Hid (Gr w0.heap.size wr g cap N n ad1 ls1)/\Ext w0 wr/\Hid (QC c d ps ls1/\Ops 0 ls ls1/\Yr (bC N k c) ls1)) (λ_ idx _=>n-(intOf idx).toNat)
  case atStart=>exact ⟨0,0,[],ad,ls,by omega,by omega,by go_num,by go_num,hid hG,hE,hid ⟨QC.start ls,.refl _,hA⟩⟩
  case round =>
    clear hA hG hE;obtain ⟨c,d,ps,ad1,ls1,hc,hdN,rfl,rfl,hG1,hE1,hK1⟩:=hrel;generalize wr=U at *
    have hfin : ∀W (e:Ending),Ext U W->(c=n\/d=N)->e = .returned (slv g d cap)->Ki1 w0 g cap N n k ls e W:=λW e hW hcd he =>
      ⟨d,ps,ad1,ls1,he,hdN,hG1.out.ext hW,by
        rcases hcd with h | h
        · subst h;exact hK1.out.1
        · exact hK1.out.1.full (by rw [hG1.out.len];exact h) hc,hK1.out.2.1,hK1.out.2.2.mono (by
          have:=J7 N k c (n-c);rwa [show c+(n-c)=n by omega] at this),hE1.trans hW⟩
    have Hfin:=hid hfin;clear hfin;have hdcap:(d:Int)<=(cap:Int):=by omega
    by_cases hcn:c<n
    · have hci:(c:Int)<(n:Int):=by omega
      by_cases hdL:d<N
      · have hdi:(d:Int)<(N:Int):=by omega
        have hbn:=Ki8 (L:=N) (N:=N-d) (k:=k) (c:=c) (by omega);have hbm:=J7 N k (c+1) (n-(c+1));rw [show c+1+(n-(c+1))=n by omega] at hbm;have Hbn:=hid hbn;have Hbm:=hid hbm;obtain ⟨kb,hkb⟩ : ∃kb,kb=bC N k c:=⟨_,rfl⟩
        rw [<-hkb] at Hbn;have Hkb:=hid hkb;have HN1:=hid (show ls1.length=d+(N-d) by rw [hG1.out.len];omega);clear hbn hbm hkb;obtain ⟨M,hM⟩ : ∃M,M=N-d:=⟨_,rfl⟩
        have hMd:d+M=N:=by omega
        rw [<-hM] at HN1 Hbn;clear hM;go_wp2_with fail
        go_loopg [5] (sm (cols c d ls1) M) (λk' dn wr => ∃ad2 ls2,dn = .int .i64 d/\Hid (Gr w0.heap.size wr g cap N n ad2 ls2)/\Ext w0 wr/\Hid (k'=sm (cols c d ls2) M/\GG c d M kb ls2/\Ops d ls1 ls2))
        case atStart=>exact ⟨ad1,ls1,rfl,hG1,hE1,hid ⟨rfl,.inl (λt ht=>by rw [Hkb.out];exact hK1.out.2.2 (d+t) (by rw [HN1.out];omega)),.refl _⟩⟩
        case round =>
          obtain ⟨ad2,ls2,rfl,hG2,hE2,hK⟩:=hrel;have hN2:=hid (show ls2.length=d+M by rw [hK.out.2.2.length];exact HN1.out);have hlt2:=hid hK.out.2.1.lt;have Hbig:=hid (show 2*(kb*(M+2)+2)+2<LIM by have:=Hbn.out;have:=Hbm.out;have:=Hk.out;omega);generalize wr=V at *;go_wp2_with fail
          go_loopw [7,8,9] (λkk mm idx wr => ∃(i:Nat) (kv:Int) (mv:Bool),i<=M/\idx = .int .i64 ((d+i:Nat):Int)/\kk = .int .i64 kv/\mm = .bool mv/\Hid (BsR (cols c d ls2) d i kv mv)/\Ext V wr) (λ_ _ idx _=>N-(intOf idx).toNat)
          case atStart=>exact ⟨0,-1,false,by omega,by simp,rfl,rfl,hid (.inl ⟨rfl,rfl,λt h=>by omega⟩),Ext.refl _⟩
          case round =>
            obtain ⟨i,kv,mv,hi,rfl,rfl,rfl,hB,hEV⟩:=hrel;obtain ⟨a,ha⟩ : ∃a,a=d+i:=⟨_,rfl⟩
            rw [<-ha]
            by_cases hlt:i<M
            · have hii:(a:Int)<(N:Int):=by omega
              obtain ⟨gx,cx,ead,c1,cz,o1,_⟩:=(hG2.out.ext hEV).ln (d:=d) (i:=i) (by omega) hcn;obtain ⟨z,hz⟩ : ∃z,z=cols c d ls2 i:=⟨_,rfl⟩
              have hzE:=hlt2.out i hlt;have hzE2:nd z<=kb*(M+2)+3:=by rw [hz];exact Ku (hzE.col (Q:=λz=>z.natAbs<2^(kb*(M+2)+2)) (Nat.pow_pos (by omega)) c)
              have Hz2:=hid hzE2;rw [<-hz] at cz;rw [<-ha] at c1;have hitz:(Lib.itoa z==[48])=decide (z=0):=Ky z;have Hz:=hid hz;have Ha:=hid ha;clear hz o1 ead hzE hzE2;have hidx:(Value.int .i64 ((a:Int)+1)) = .int .i64 ((d+(i+1):Nat):Int):=by rw [show ((d+(i+1):Nat):Int)=(a:Int)+1 by omega]
              have Hidx:=hid hidx;clear hidx ha
              by_cases hz0:z=0
              · rw [decide_eq_true hz0] at hitz
                have Hz0:=hid hz0;clear hz0;go_wp2_with fail;go_roundw
                case rel=>exact ⟨i+1,kv,mv,by omega,Hidx.out,rfl,rfl,hid (Kjh hB.out (by rw [<-Hz.out];exact Hz0.out)),hEV⟩
                case measure=>simp [intOf]<;>omega
              · rw [decide_eq_false hz0] at hitz
                have Hz0:=hid hz0;clear hz0
                rcases hB.out with ⟨h1,h2,h3⟩ | ⟨p,hp,h1,hpz,hmin,h4⟩
                · subst h1 h2
                  have Hall:=hid h3;clear h3 hB;go_wp2_with fail
                  go_quiet (fail)
                  go_wp2_with fail;go_roundw
                  case rel=>exact ⟨i+1,_,_,by omega,Hidx.out,by rw [Ha.out],rfl,hid (Kgs Hall.out (by rw [<-Hz.out];exact Hz0.out)),hEV.drewN _⟩
                  case measure=>simp [intOf]<;>omega
                · have Hpz:=hid hpz
                  have Hmin:=hid hmin;have Hp:=hid hp;obtain ⟨ap,hap⟩ : ∃ap,ap=d+p:=⟨_,rfl⟩
                  rw [<-hap] at h1;subst h1;obtain ⟨gxp,cxp,eadp,c1p,cy',o1p,_⟩:=(hG2.out.ext hEV).ln (d:=d) (i:=p) (by omega) hcn;have hapN:(ap:Int)<(N:Int):=by omega
                  rw [<-hap] at c1p;obtain ⟨y,hy⟩ : ∃y,y=cols c d ls2 p:=⟨_,rfl⟩
                  have hyE:=hlt2.out p (by omega);have hyE2:nd y<=kb*(M+2)+3:=by rw [hy];exact Ku (hyE.col (Q:=λz=>z.natAbs<2^(kb*(M+2)+2)) (Nat.pow_pos (by omega)) c)
                  rw [<-hy] at cy';have Hy:=hid hy;have Hap:=hid hap;have hzl:nd z<=LIM:=by have:=Hbig.out;have:=Hz2.out;omega
                  have hyl:nd y<=LIM:=by have:=Hbig.out;omega
                  have hzl':nd (z.natAbs:Int)<=LIM:=by unfold nd at *;rw [Int.natAbs_natCast];exact hzl
                  have hyl':nd (y.natAbs:Int)<=LIM:=by unfold nd at *;rw [Int.natAbs_natCast];exact hyl
                  have bA:=hid (λ(t:Int) (ht:nd t<=LIM)=>KO (w:=wr) (λW h=>(J0 (z:=t) ht W)));have Hzl:=hid hzl;have Hyl:=hid hyl;have k1:=cell_regrown c1;have k2:=cell_regrown cz;have k3:=cell_regrown c1p;have k4:=cell_regrown cy';have b3:=hid (KO (w:=wr) (λW h=>(Xv (a:=(z.natAbs:Int)) (b:=(y.natAbs:Int)) hzl' hyl' W)));have Hcmp:=hid (show Xi z.natAbs y.natAbs<0↔z.natAbs<y.natAbs by unfold Xi;split<;>(try split)<;>omega);obtain ⟨q,hq⟩ : ∃q,q=Xi z.natAbs y.natAbs:=⟨_,rfl⟩
                  rw [<-hq] at b3 Hcmp;have hap0 : ¬(ap:Int)<0:=by omega
                  have hap1:(0:Int)<=(ap:Int):=by omega
                  clear hpz hmin hy hB o1p eadp hyE hyE2 hzl hyl hzl' hyl' hq hap hp h4
                  cases mv
                  all_goals
                   rcases Decidable.em (z.natAbs<y.natAbs) with hzy | hzy
                   · have hq0:q<0:=Hcmp.out.2 hzy
                     have hqd:decide (q<0)=true:=decide_eq_true hq0;have Hzy:=hid hzy;clear hzy;go_wp2_with fail;refine wp_region_quiet_below (by kernel_rfl) (by kernel_rfl) ?_
                     repeat (quiet_step (first | (refine bA.out _ ?_ _ _;first | exact Hzl.out | exact Hyl.out) | exact b3.out _ _))
                     refine wpQuiet_nil ?_;intro _ hw';obtain ⟨⟨dq,osq⟩,hw''⟩:=hw';subst hw'';have hE5:=hEV.trans (Kj _ dq osq);clear bA b3 k1 k2 k3 k4;go_wp2_with fail;go_roundw
                     case rel=>exact ⟨i+1,_,_,by omega,Hidx.out,by rw [Ha.out],by simp,hid (Kjg Hp.out Hpz.out Hmin.out (by rw [<-Hz.out];exact Hz0.out) (by rw [<-Hz.out,<-Hy.out];exact Hzy.out)),hE5⟩
                     case measure=>simp [intOf]<;>omega
                   · have hq0:0<=q:=by have:=mt Hcmp.out.1 hzy;omega
                     have hqd:decide (q<0)=false:=decide_eq_false (by omega);have Hzy:=hid hzy;clear hzy;go_wp2_with fail;refine wp_region_quiet_below (by kernel_rfl) (by kernel_rfl) ?_
                     repeat (quiet_step (first | (refine bA.out _ ?_ _ _;first | exact Hzl.out | exact Hyl.out) | exact b3.out _ _))
                     refine wpQuiet_nil ?_;intro _ hw';obtain ⟨⟨dq,osq⟩,hw''⟩:=hw';subst hw'';have hE5:=hEV.trans (Kj _ dq osq);clear bA b3 k1 k2 k3 k4;go_wp2_with fail;go_roundw
                     case rel=>exact ⟨i+1,_,_,by omega,Hidx.out,by rw [Hap.out],by simp,hid (Kjf Hp.out Hpz.out Hmin.out (by rw [<-Hz.out];exact Hz0.out) (by rw [<-Hz.out,<-Hy.out];have:=Hzy.out;omega)),hE5⟩
                     case measure=>simp [intOf]<;>omega
            · have hiM:i=M:=by omega
              subst hiM;have haN:a=N:=by omega
              subst haN;clear ha
              rcases hB.out with ⟨h1,h2,h3⟩ | ⟨p,hp,h1,hpz,hmin,h4⟩
              · subst h1 h2
                have HSW:=hid (Knl hK.out.2.2 hK.out.2.1 h3);clear h3 hB;go_wp2_with fail;go_roundw
                case rel=>exact ⟨c+1,d,ps,ad2,ls2,by omega,by omega,by go_num,rfl,hid (hG2.out.ext hEV),hE2.trans hEV,hid ⟨hK1.out.1.skip hG1.out.dim HN1.out HSW.out,hK1.out.2.1.trans (HSW.out.ops.mono (by omega)),(HSW.out.all HN1.out (by rw [Hkb.out];exact hK1.out.2.2)).mono (by have:=Hbn.out;omega)⟩⟩
                case measure=>simp [intOf]<;>omega
              · have Hpz:=hid hpz
                have Hmin:=hid hmin;have hG3:=hG2.out.ext hEV;obtain ⟨ap,hap⟩ : ∃ap,ap=d+p:=⟨_,rfl⟩
                rw [<-hap] at h1;subst h1;obtain ⟨gxp,cxp,eadp,c1p,_,_,_⟩:=hG3.ln (d:=d) (i:=p) (by omega) hcn;obtain ⟨gx,cx,ead,c1,_,_,_⟩:=hG3.el (i:=d) (by omega) hcn;rw [<-hap] at c1p eadp;have hapN:(ap:Int)<(a:Int):=by omega
                have hap0 : ¬(ap:Int)<0:=by omega
                have fz:=hG3.fz;have hS:=hG3.swap hnp hdL (by omega:ap<a) ead eadp;have Hsw:=hid (show swp ls2 d ap=swp ls2 d (d+p) by rw [hap]);have Hp:=hid hp;have hgb:=hG3.base.1;have H4:=hid h4;have Hap:=hid hap;have hd0 : ¬(d:Int)<0:=by omega
                rcases Nat.eq_zero_or_pos p with hp0 | hp0
                focus
                  have hade:ap=d:=by omega
                  rw [hade] at c1p eadp hS Hsw ⊢;have e1:slv gx n cx=slv gxp n cxp:=by rw [c1] at c1p;exact Option.some.inj c1p
                  rw [<-e1] at hS c1p;have HS:=hid hS;clear c1p hpz hmin hB hap hp0 h4 eadp ead e1 hS hp hade;go_wp2_with fail
                  go_region
                  obtain ⟨hS1,hS2⟩:=HS.out;rw [Hsw.out] at hS1
                rotate_left
                focus
                  have d1:ap≠d:=by omega
                  have d2:d≠ap:=by omega
                  have HS:=hid hS;clear hpz hmin hB hap hp0 h4 eadp ead hS hp;go_wp2_with fail
                  go_region
                  obtain ⟨hS1,hS2⟩:=HS.out;rw [Hsw.out] at hS1
                all_goals
                  have hG4:=hid (hS1.ext ((Ext.refl _).drew));have hE4:=(Kb (hE2.trans hEV) hS2 hgb).drew;generalize hW5:World.drew (World.setCell _ _ _)=W5 at *;clear hW5 HS hS1 hS2 c1 hG3;have hM0:0<i:=by have:=Hp.out;omega
                  by_cases hc1:Zq (cols c d ls2) i=1
                  · have HSW:=hid (Koy hK.out.2.2 hN2.out hK.out.2.1 Hp.out Hpz.out hc1)
                    have hmv:mv=false:=by rw [H4.out,hc1];rfl
                    subst hmv;have HSA:=hid (HSW.out.all HN1.out (by rw [Hkb.out];exact hK1.out.2.2));have hfn:=hid (Kid hG4.out hdL hcn hn2 hN HSA.out (HSW.out.yes rfl).2.1 Hbig.out HL.out hE4);clear hc1;go_wp2_with fail;refine hfn.out.mono ?_;rintro e W6 ⟨rfl,hG6,hE6⟩;have HG6:=hid hG6;clear hG6 hfn;go_wp2_with fail;go_roundw
                    case rel =>
                      have hld:d<(swp ls2 d (d+p)).length:=by rw [Yo,hN2.out];omega
                      refine ⟨c+1,d+1,_,_,_,by omega,by omega,by go_num,by go_num,HG6,hE6,hid ⟨hK1.out.1.next hG1.out.dim HN1.out HSW.out,(hK1.out.2.1.trans (HSW.out.ops.mono (by omega))).trans (((KbV c d _ hld).mono (by omega)).trans (KbD c d _ (by rw [ZD];exact hld) d (Nat.le_refl _))),?_⟩⟩;refine ((HSA.out.pos (c:=c) (d:=d) hld).abv (c:=c) (d:=d) (j:=d) (by rw [ZD];exact hld) ?_).mono (by have:=Hbn.out;omega);rw [XA hld];have:en (swp ls2 d (d+p)) d c≠0:=(HSW.out.yes rfl).2.1;split<;>omega
                    case measure=>simp [intOf]<;>omega
                  · have hcp:=Ja Hpz.out Hp.out
                    have hmv:mv=true:=by rw [H4.out];exact decide_eq_true (by omega)
                    subst hmv
                    have hi2:2<=i:=by
                      obtain ⟨s,hs,hsp,_⟩:=KeT hc1 Hpz.out Hp.out;have:=Hp.out;omega
                    have hdd:=hG2.out.dim;have Hless:=hid (KjS hN2.out hdd Hp.out Hpz.out Hmin.out hc1);have HG2:=hid (hK.out.2.1.swp hN2.out Hp.out);have hd2:Dim n 0 (swp ls2 d (d+p)):=hG4.out.dim;have HN2:=hid (show (swp ls2 d (d+p)).length=d+i by rw [Yo];exact hN2.out);have Hz2:=hid (show cols c d (swp ls2 d (d+p)) 0≠0 by rw [Kbw hN2.out Hp.out];exact Hpz.out);have Hm2:=hid (Kbu hN2.out Hp.out Hmin.out);have HO2:=hid (Ops.step hK.out.2.2 (Kbv (d:=d) (i:=d) (j:=d+p) ls2 (by rw [hN2.out];omega) (by rw [hN2.out];have:=Hp.out;omega) (by omega) (by omega)));generalize hls3:swp ls2 d (d+p)=ls3 at *;generalize sw2 ad2 (0,0) d _=ad3 at *;clear hls3 hcp hc1 Hsw;have HG3:=hid (HG2.out.red HN2.out hd2 Hz2.out Hm2.out)
                    have hR : ∀j,j<=i-1 -> ∀t,t<i->All (λz=>z.natAbs<2^(kb*(i+2)+2)) ((KJ c d j ls3).getD (d+t) default):=λj hj t ht=>by
                      have h1:=HG2.out.lt t ht;have h2:=HG3.out.lt t ht;rw [Zx c d _ (by rw [HN2.out];omega)] at h2 ⊢
                      by_cases htj:d<d+t/\d+t<=d+j
                      · rw [if_pos htj];rw [if_pos (by omega)] at h2;exact h2
                      · rw [if_neg htj];exact h1
                    have HR:=hid hR;have hi1:i-1<=i:=by omega
                    clear hR;go_wp2_with fail
                    go_loopw [10] (λidx wr => ∃j:Nat,j<=i-1/\idx = .int .i64 ((d+(j+1):Nat):Int)/\Hid (Gr w0.heap.size wr g cap a n ad3 (KJ c d j ls3))/\Ext w0 wr) (λidx _=>a-(intOf idx).toNat)
                    case atStart=>exact ⟨0,by omega,by rw [show ((d+(0+1):Nat):Int)=(d:Int)+1 by omega],by rw [KaM];exact hG4,hE4⟩
                    case round =>
                      obtain ⟨j,hj,rfl,hL3,hE3⟩:=hrel;generalize wr=X at *;obtain ⟨b,hb⟩ : ∃b,b=d+(j+1):=⟨_,rfl⟩
                      rw [<-hb]
                      by_cases hjl:j<i-1
                      · have hba:b<a:=by omega
                        have hji:(b:Int)<(a:Int):=by omega
                        have HN3:=hid (show (KJ c d j ls3).length=d+i by rw [Kbk];exact HN2.out);obtain ⟨gy,cy,eady,c1y,cz,o1,_⟩:=hL3.out.ln (d:=d) (i:=j+1) (by omega) hcn;obtain ⟨gt,ct,eadt,c1t,czt,ot,_⟩:=hL3.out.el (i:=d) (by omega) hcn;rw [<-hb] at eady c1y o1;obtain ⟨z,hz⟩ : ∃z,z=cols c d (KJ c d j ls3) (j+1):=⟨_,rfl⟩
                        obtain ⟨y,hy⟩ : ∃y,y=cols c d (KJ c d j ls3) 0:=⟨_,rfl⟩
                        have hyt:en (KJ c d j ls3) d c=y:=by rw [hy];rfl
                        rw [<-hz] at cz;rw [hyt] at czt
                        have hy0:y≠0:=by
                          rw [hy];unfold cols;rw [Zx c d _ (by rw [HN2.out];omega),if_neg (by omega)];exact Hz2.out
                        have hA1:=HR.out j hj (j+1) (by omega);have hA0:=HR.out j hj 0 (by omega);rw [<-hb] at hA1;have hzE:z.natAbs<2^(kb*(i+2)+2):=by rw [hz];have:=HR.out j hj (j+1) (by omega);exact this.col (Q:=λz=>z.natAbs<2^(kb*(i+2)+2)) (Nat.pow_pos (by omega)) c
                        have hyE:y.natAbs<2^(kb*(i+2)+2):=by rw [hy];exact hA0.col (Q:=λz=>z.natAbs<2^(kb*(i+2)+2)) (Nat.pow_pos (by omega)) c
                        have hqE:(z.fdiv y).natAbs<2^(kb*(i+2)+2):=Nat.lt_of_le_of_lt (Zc z hy0) hzE;have hstep:=Kcx c d j ls3 (by rw [HN2.out];omega);rw [<-hz,<-hy,<-hb] at hstep;have Hzl:Hid (nd z<LIM):=by have:=Ku hzE;have:=Hbig.out;exact hid (by omega)
                        have Hyl:Hid (nd y<LIM):=by have:=Ku hyE;have:=Hbig.out;exact hid (by omega)
                        have Hl:=hid (λW (hW:Ext X W)=>Kej (w0:=w0) (w:=W) (i:=b) (t:=d) (hL3.out.ext hW) hnp hn2 hba hdL (by omega) eady eadt hA1 hA0 hqE Hbig.out HL.out (hE3.trans hW));have Hstep:=hid hstep;have Hy0:=hid hy0;have Hb:=hid hb;have hidx:(Value.int .i64 ((b:Int)+1)) = .int .i64 ((d+(j+1+1):Nat):Int):=by rw [show ((d+(j+1+1):Nat):Int)=(b:Int)+1 by omega]
                        have Hidx:=hid hidx;have k1:=cell_regrown cz;have k2:=cell_regrown czt;have k3:=cell_regrown c1y;have k4:=cell_regrown c1t;have bD:=hid (KO (w:=X) (λW h=>Qg (a:=z) (b:=y) (w:=W) Hzl.out Hyl.out Hy0.out (HL.out.ext (hE3.trans h))));clear hy hz eady eadt o1 ot hA1 hA0 hzE hyE hqE hstep hyt hy0 hidx hb;go_wp2_with fail;refine wp_region_quiet_below (by kernel_rfl) (by kernel_rfl) ?_
                        repeat (quiet_step (exact bD.out _ _))
                        refine wpQuiet_nil ?_;intro _ hw';obtain ⟨⟨dq,osq⟩,hw''⟩:=hw';subst hw'';have hE6:=Kj X dq osq;have m3:=k3 dq osq;have m4:=k4 dq osq;clear bD k1 k2 k3 k4;generalize hW6:grow (redrawn _ _) _=W6 at *;have n3:=cell_regrown m3;have n4:=cell_regrown m4;clear hW6 m3 m4;go_wp2_with fail;refine Kl 9 (by kernel_rfl) (by kernel_rfl) ?_;simp only [List.take_succ_cons,List.take_zero,List.drop_succ_cons,List.drop_zero]
                        repeat (quiet_step (fail))
                        refine wpQuiet_nil ?_;intro _ hw';obtain ⟨⟨dq,osq⟩,hw''⟩:=hw';subst hw'';have hE7:=hE6.trans (Kj _ dq osq);clear n3 n4;generalize hW7:grow (redrawn _ _) _=W7 at *;clear hW7;go_wp2_with fail;refine (Hl.out _ hE7).mono ?_;rintro e W8 ⟨rfl,hG8,hE8,_⟩;rw [show d+0=d from rfl] at Hstep;rw [<-Hstep.out] at hG8;have HG8:=hid hG8;clear hG8 Hl;go_wp2_with fail;go_roundw
                        case rel=>exact ⟨j+1,by omega,Hidx.out,HG8,hE8⟩
                        case measure=>simp [intOf]<;>omega
                      · have hba : ¬(b:Int)<(a:Int):=by omega
                        have hje:j=i-1:=by omega
                        subst hje;clear hb;go_wp2_with fail
                        go_roundg (sm (cols c d (KJ c d (i-1) ls3)) i)
                        case measure=>rw [hK.out.1];exact Hless.out
                        case rel=>exact ⟨ad3,_,rfl,hL3,hE3,hid ⟨rfl,HG3.out,HO2.out.trans (Kak c d ls3 (i-1) (by rw [HN2.out];omega))⟩⟩
      · have hde:d=N:=by omega
        have hdi : ¬(d:Int)<(N:Int):=by omega
        go_wp2_with fail;go_ret;exact Hfin.out _ _ (Ext.refl _) (.inr hde) (by subst hde;rfl)
    · have hce:c=n:=by omega
      have hci : ¬(c:Int)<(n:Int):=by omega
      go_wp2_with fail;go_ret;exact Hfin.out _ _ (Ext.refl _) (.inl hce) rfl
end
end Go.Proofs.YtmhfccigejcphaaGreatDoor
