/- Part 29 of the proof of the claim: contracts of the functions that it reaches, and plain laws; no condition. -/
import Derived.Test.YtdmaofimeknkbaaGreatDoorQ28
import Derived.BigQuiet
set_option maxRecDepth 100000
set_option maxHeartbeats 20000000
namespace Go.Proofs.YtdmaofimeknkbaaGreatDoor
section
open Go.RowKit Go.Sort
open Lib (hid)
theorem Koa {w0 w:World} {n c E:Nat} {x:Wa} {aa al ar:List (Nat×Nat)} {s:Dg} {t:Nat} (h:WkR w0.heap.size w n c x aa al ar s) (htn:t<n) (htc:t<c) (hn2:n<=1000000) (hc2:c<=1000000) (hA:BM E s.a) (hBL:BM E s.l) (hBR:BM E s.r) (hp:eM s.a t t≠0)
  (hE:2*(4*E+3)+2<LIM) (hL:Laid w0) (hE0:Ext w0 w) :
  Calls Tryz.prog 93 #[.pointer (some ⟨x.p,0,none⟩),.int .i64 t] w λe w' =>
   e = .returned (.bool (XO n c t s))/\WkR w0.heap.size w' n c x aa al ar (Kw n c t s)/\Ext w0 w':=by
 obtain ⟨p,ga,ca,gl,cl,gr,cr⟩:=x;have HW:=hid h;have Hla:=hid h.la;have Hll:=hid h.ll;have Hra:=hid h.ra;have HA:=hid hA;have HBL:=hid hBL;have HBR:=hid hBR;have Hp:=hid hp;have HE:=hid hE;have HL:=hid hL;have hc0:0<c:=by omega
 obtain ⟨N,hN⟩ : ∃N,N=n-(t+1):=⟨_,rfl⟩
 obtain ⟨C,hC⟩ : ∃C,C=c-(t+1):=⟨_,rfl⟩
 have hNn:t+1+N=n:=by omega
 have hCc:t+1+C=c:=by omega
 have Hok:=hid (show XO n c t s=(Yo t N s&&Yg t C (Kn t N s)) by rw [hN,hC];rfl);have Hcl:=hid (show Kw n c t s=Qc t C (Kn t N s) by rw [hN,hC];rfl);have htI:(t:Int)<(n:Int):=by omega
 have htcI:(t:Int)<(c:Int):=by omega
 have hp3:p≠p+1:=by omega
 obtain ⟨okR,hokR⟩ : ∃okR,okR=XO n c t s:=⟨_,rfl⟩
 obtain ⟨sR,hsR⟩ : ∃sR,sR=Kw n c t s:=⟨_,rfl⟩
 rw [<-hokR,<-hsR];rw [<-hokR] at Hok;rw [<-hsR] at Hcl;clear h hA hBL hBR hp hE hL hN hC hokR hsR hp3
 go_enter Tryz.func93,Tryz.ntmps93
 go_wp2_with fail
 go_loopw [5,6] (λok idx wr => ∃j:Nat,j<=N/\idx = .int .i64 ((t+1+j:Nat):Int)/\ok = .bool (Yo t j s)/\Hid (WkR w0.heap.size wr n c ⟨p,ga,ca,gl,cl,gr,cr⟩ aa al ar (Kn t j s))/\Ext w0 wr) (λ_ idx _=>n-(intOf idx).toNat)
 case atStart=>exact ⟨0,by omega,by simp,rfl,HW,hE0⟩
 case round =>
  obtain ⟨j,hj,rfl,rfl,hW1,hE1⟩:=hrel;generalize wr=V at *;obtain ⟨i,hi⟩ : ∃i,i=t+1+j:=⟨_,rfl⟩
  rw [<-hi];have hcA:=hW1.out.c0;have hcL:=hW1.out.c1;have hc3:=hW1.out.c3;simp only at hcA hcL hc3
  by_cases hjl:j<N
  ·have hin:i<n:=by omega
   have hiI:(i:Int)<(n:Int):=by omega
   obtain ⟨gx,cx,eai,_,h1,o1,_,hel1⟩:=hW1.out.a.atM hW1.out.ra hc0 (by rw [hW1.out.la];exact hin:i<_);obtain ⟨gt,ct,eat,_,h2,ot,_,hel2⟩:=hW1.out.a.atM hW1.out.ra hc0 (by rw [hW1.out.la];exact htn:t<_);obtain ⟨gy,cy,eli,_,h3,ol,_,_⟩:=hW1.out.l.atM hW1.out.rl (by omega) (by rw [hW1.out.ll];exact hin:i<_);obtain ⟨gu,cu,elt,_,h4,ou,_,_⟩:=hW1.out.l.atM hW1.out.rl (by omega) (by rw [hW1.out.ll];exact htn:t<_);have e1:=hel1 t htc;have e2:=hel2 t htc;simp only at h1 h2 h3 h4;have hrow:=QZ t s (by rw [Hll.out,Hla.out]) j (by rw [Hla.out];omega);have ra1:=(hrow i).1;have ra2:=(hrow t).1;have rl1:=(hrow i).2;have rl2:=(hrow t).2;rw [if_neg (by omega)] at ra1 ra2 rl1 rl2;obtain ⟨z,hz⟩ : ∃z,z=eM s.a i t:=⟨_,rfl⟩
   obtain ⟨y,hy⟩ : ∃y,y=eM s.a t t:=⟨_,rfl⟩
   have hz1:eM (Kn t j s).a i t=z:=by rw [hz];unfold eM;rw [ra1]
   have hy1:eM (Kn t j s).a t t=y:=by rw [hy];unfold eM;rw [ra2]
   rw [hz1] at e1;rw [hy1] at e2;have hzb:z.natAbs<2^E:=by rw [hz];exact HA.out.el i t
   have hyb:y.natAbs<2^E:=by rw [hy];exact HA.out.el t t
   have hy0:y≠0:=by rw [hy];exact Hp.out
   have hqb:(z.fdiv y).natAbs<2^E:=Nat.lt_of_le_of_lt (Zi z hy0) hzb
   have hst:Kn t (j+1) s=⟨QJ i t (z.fdiv y) (Kn t j s).a,QJ i t (z.fdiv y) (Kn t j s).l,(Kn t j s).r⟩:=by
    rw [Kn,<-hi];unfold Kj9;rw [hz1,hy1]
   have hsk:Yo t (j+1) s=(Yo t j s&&decide (z.fmod y=0)):=by rw [Yo,<-hi,hz1,hy1]
   have Hst:=hid hst;have Hsk:=hid hsk;have hEs:2*E+2<LIM:=by have:=HE.out;omega
   have htA:=hid (λW (hW:Ext V W)=>Kkh (w0:=w0) (w:=W) (E:=E) (q:=z.fdiv y) (hW1.out.ext hW) hc0 hc2 hin htn (by omega:i≠t) eai eat (by rw [ra1];exact HA.out.at i) (by rw [ra2];exact HA.out.at t) hqb hEs HL.out (hE1.trans hW));have htL:=hid (λW s2 (hs2:s2.l=(Kn t j s).l) (h2:WkR w0.heap.size W n c ⟨p,ga,ca,gl,cl,gr,cr⟩ aa al ar s2) (hW:Ext w0 W)=>Kki (w0:=w0) (w:=W) (E:=E) (q:=z.fdiv y) h2 hn2 hin htn (by omega:i≠t) eli elt (by rw [hs2,rl1];exact HBL.out.at i) (by rw [hs2,rl2];exact HBL.out.at t) hqb hEs HL.out hW);have Hzl:Hid (nd z<LIM):=by have:=Kv hzb;exact hid (by omega)
   have Hyl:Hid (nd y<LIM):=by have:=Kv hyb;exact hid (by omega)
   have Hy0:=hid hy0;have hdl:Hid (gl≠gx/\p≠gx):=hid ⟨Ne.symm (K7 hW1.out.l.outer o1),Ne.symm (hW1.out.pi.1 _ (List.mem_of_getElem? eai))⟩;have hidx:(Value.int .i64 ((i:Int)+1)) = .int .i64 ((t+1+(j+1):Nat):Int):=by rw [show ((t+1+(j+1):Nat):Int)=(i:Int)+1 by omega]
   have Hidx:=hid hidx;have bD:=hid (Qn (w:=V) (λW h=>Qf (a:=z) (b:=y) (w:=W) Hzl.out Hyl.out Hy0.out (HL.out.ext (hE1.trans h))));have hitz:(Lib.itoa (z.fmod y)==[48])=decide (z.fmod y=0):=KB _;have k1:=cell_regrown hcA;have k2:=cell_regrown h1;have k3:=cell_regrown h2;have k4:=cell_regrown e1;have k5:=cell_regrown e2;clear o1 ot ol ou hel1 hel2 hrow ra1 ra2 rl1 rl2 hz hy hz1 hy1 hzb hyb hy0 hqb hst hsk hEs eai eat eli elt hidx hi;go_wp2_with fail;refine wp_region_quiet_below (by kernel_rfl) (by kernel_rfl) ?_
   repeat (go_big_quiet_step (exact bD.out _ _))
   refine wpQuiet_nil ?_;intro _ hw';obtain ⟨⟨dq,osq⟩,hw''⟩:=hw';subst hw'';have hE5:=Kk V dq osq;have m1:=k1 dq osq;have m2:=k2 dq osq;have m3:=k3 dq osq;clear bD k1 k2 k3 k4 k5;generalize hW5:grow (redrawn _ _) _=W5 at *;have n1:=cell_regrown m1;have n2:=cell_regrown m2;have n3:=cell_regrown m3;clear hW5 m1 m2 m3;go_wp2_with fail;refine Km 15 (by kernel_rfl) (by kernel_rfl) ?_;simp only [List.take_succ_cons,List.take_zero,List.drop_succ_cons,List.drop_zero]
   repeat (go_big_quiet_step (fail))
   refine wpQuiet_nil ?_;intro _ hw';obtain ⟨⟨dq,osq⟩,hw''⟩:=hw';subst hw'';have hE6:=hE5.trans (Kk W5 dq osq);clear n1 n2 n3;generalize hW6:grow (redrawn _ _) _=W6 at *;clear hW6;go_wp2_with fail;refine (htA.out _ hE6).mono ?_;rintro e W7 ⟨rfl,hW7,hE7,hG7⟩;have hC7:Chg (λk=>k=gx) W6 W7:=Chg.of_grown hG7 rfl;have d1:=hC7.cell hdl.out.2 (hE6.cell hcL);have d2:=hC7.cell hdl.out.1 (hE6.cell h3);have d3:=hC7.cell hdl.out.1 (hE6.cell h4);have HtL:=hid (λW (hW:Ext W7 W)=>htL.out W { Kn t j s with a:=QJ i t (z.fdiv y) (Kn t j s).a } rfl (hW7.ext hW) (hE7.trans hW));have k1:=cell_regrown d1;have k2:=cell_regrown d2;have k3:=cell_regrown d3;clear hC7 hG7 htA htL hW7;go_wp2_with fail;refine Km 15 (by kernel_rfl) (by kernel_rfl) ?_;simp only [List.take_succ_cons,List.take_zero,List.drop_succ_cons,List.drop_zero]
   repeat (go_big_quiet_step (fail))
   refine wpQuiet_nil ?_;intro _ hw';obtain ⟨⟨dq,osq⟩,hw''⟩:=hw';subst hw'';have hE8:=Kk W7 dq osq;clear k1 k2 k3 d1 d2 d3;generalize hW8:grow (redrawn _ _) _=W8 at *;clear hW8;go_wp2_with fail;refine (HtL.out _ hE8).mono ?_;rintro e W9 ⟨rfl,hW9,hE9,_⟩;have HW9:=hid (show WkR w0.heap.size W9 n c ⟨p,ga,ca,gl,cl,gr,cr⟩ aa al ar (Kn t (j+1) s) by rw [Hst.out];exact hW9);clear hW9 HtL;obtain ⟨q,hq⟩ : ∃q,q=z.fmod y:=⟨_,rfl⟩
   rw [<-hq] at hitz Hsk ⊢;clear hq;obtain ⟨okj,hokj⟩ : ∃okj,okj=Yo t j s:=⟨_,rfl⟩
   rw [<-hokj] at Hsk ⊢;clear hokj
   cases okj
   ·go_wp2_with fail;go_roundw
    case rel=>exact ⟨j+1,by omega,Hidx.out,by rw [Hsk.out];rfl,HW9,hE9⟩
    case measure=>simp [intOf]<;>omega
   ·go_wp2_with fail;go_roundw
    case rel=>exact ⟨j+1,by omega,Hidx.out,by rw [Hsk.out];simp,HW9,hE9⟩
    case measure=>simp [intOf]<;>omega
  ·have hjN:j=N:=by omega
   have hiI : ¬(i:Int)<(n:Int):=by omega
   have hE2:=hE1;subst hjN;obtain ⟨s1,hs1⟩ : ∃s1,s1=Kn t j s:=⟨_,rfl⟩
   obtain ⟨ok1,hok1⟩ : ∃ok1,ok1=Yo t j s:=⟨_,rfl⟩
   rw [<-hs1] at hW1 Hok Hcl;rw [<-hok1] at Hok ⊢;have hb1:=KhR (s:=s) (t:=t) (j:=j) (E:=E) (by rw [Hll.out,Hla.out]) (by rw [Hla.out];omega) HA.out HBL.out Hp.out;rw [<-hs1] at hb1;have hr1:s1.r=s.r:=by rw [hs1];exact (ZU t s j).2.2
   have hBR1:BM (2*E+1) s1.r:=by rw [hr1];exact HBR.out.mono (by omega)
   have hp1:eM s1.a t t≠0:=by
    have h7:=(QZ t s (by rw [Hll.out,Hla.out]) j (by rw [Hla.out];omega) t).1;rw [if_neg (by omega),<-hs1] at h7;unfold eM;rw [h7];exact Hp.out
   have Hb1:=hid hb1.1;have HBR1:=hid hBR1;have Hp1:=hid hp1;have Hla1:=hid hW1.out.la;have Hra1:=hid hW1.out.ra;clear hs1 hok1 hb1 hr1 hBR1 hp1 hi HW HA HBL HBR hcL hE2;go_wp2_with fail
   go_loopw [5,10] (λok idx wr => ∃j:Nat,j<=C/\idx = .int .i64 ((t+1+j:Nat):Int)/\ok = .bool (ok1&&Yg t j s1)/\Hid (WkR w0.heap.size wr n c ⟨p,ga,ca,gl,cl,gr,cr⟩ aa al ar (Qc t j s1))/\Ext w0 wr) (λ_ idx _=>c-(intOf idx).toNat)
   case atStart=>exact ⟨0,by omega,by simp,by simp [Yg],hW1,hE1⟩
   case round =>
    clear hcA hc3;obtain ⟨k,hk,rfl,rfl,hW2,hE3⟩:=hrel;generalize wr=Y at *;obtain ⟨d,hd⟩ : ∃d,d=t+1+k:=⟨_,rfl⟩
    rw [<-hd];have hcA:=hW2.out.c0;have hc3:=hW2.out.c3;simp only at hcA hc3
    by_cases hkl:k<C
    ·have hdc:d<c:=by omega
     have hdI:(d:Int)<(c:Int):=by omega
     obtain ⟨gt,ct,eat,_,h2,ot,_,hel2⟩:=hW2.out.a.atM hW2.out.ra hc0 (by rw [hW2.out.la];exact htn:t<_);have e1:=hel2 d hdc;have e2:=hel2 t htc;simp only at h2;obtain ⟨z,hz⟩ : ∃z,z=eM s1.a t d:=⟨_,rfl⟩
     obtain ⟨y,hy⟩ : ∃y,y=eM s1.a t t:=⟨_,rfl⟩
     have hel:=Kfa t c s1 Hra1.out (by rw [Hla1.out];exact htn) k (by omega);rw [<-hd,<-hz,<-hy] at hel;rw [hel.1] at e1;rw [hel.2] at e2;have hzb:z.natAbs<2^(2*E+1):=by rw [hz];exact Hb1.out.el t d
     have hyb:y.natAbs<2^(2*E+1):=by rw [hy];exact Hb1.out.el t t
     have hy0:y≠0:=by rw [hy];exact Hp1.out
     have hqb:(z.fdiv y).natAbs<2^(2*(2*E+1)+1):=Nat.lt_of_lt_of_le (Nat.lt_of_le_of_lt (Zi z hy0) hzb) (Nat.pow_le_pow_right (by omega) (by omega))
     have hst:Qc t (k+1) s1=⟨Je d t (z.fdiv y) (Qc t k s1).a,(Qc t k s1).l,Je d t (z.fdiv y) (Qc t k s1).r⟩:=by
      rw [Qc,<-hd];unfold KjI;rw [hel.1,hel.2]
     have hsk:Yg t (k+1) s1=(Yg t k s1&&decide (z.fmod y=0)):=by rw [Yg,<-hd,hel.1,hel.2]
     have Hst:=hid hst;have Hsk:=hid hsk;have hbk:=KgS (s:=s1) (t:=t) (j:=k) (E:=2*E+1) Hra1.out (by rw [Hla1.out];exact htn) (by omega) Hb1.out HBR1.out Hp1.out;have htC:=hid (λW (hW:Ext Y W)=>Kgq (w0:=w0) (w:=W) (E:=2*(2*E+1)+1) (q:=z.fdiv y) (hW2.out.ext hW) (by omega) hc0 hn2 hc2 hdc htc hbk.1 hbk.2 hqb (by have:=HE.out;omega) HL.out (hE3.trans hW));have Hzl:Hid (nd z<LIM):=by have:=Kv hzb;have:=HE.out;exact hid (by omega)
     have Hyl:Hid (nd y<LIM):=by have:=Kv hyb;have:=HE.out;exact hid (by omega)
     have Hy0:=hid hy0;have hidx:(Value.int .i64 ((d:Int)+1)) = .int .i64 ((t+1+(k+1):Nat):Int):=by rw [show ((t+1+(k+1):Nat):Int)=(d:Int)+1 by omega]
     have Hidx:=hid hidx;have bD:=hid (Qn (w:=Y) (λW h=>Qf (a:=z) (b:=y) (w:=W) Hzl.out Hyl.out Hy0.out (HL.out.ext (hE3.trans h))));have hitz:(Lib.itoa (z.fmod y)==[48])=decide (z.fmod y=0):=KB _;have k1:=cell_regrown hcA;have k2:=cell_regrown h2;have k4:=cell_regrown e1;have k5:=cell_regrown e2;clear ot hel2 hz hy hel hzb hyb hy0 hqb hst hsk hbk eat hidx hd;go_wp2_with fail;refine wp_region_quiet_below (by kernel_rfl) (by kernel_rfl) ?_
     repeat (go_big_quiet_step (exact bD.out _ _))
     refine wpQuiet_nil ?_;intro _ hw';obtain ⟨⟨dq,osq⟩,hw''⟩:=hw';subst hw'';have hE5:=Kk Y dq osq;clear bD k1 k2 k4 k5;generalize hW5:grow (redrawn _ _) _=W5 at *;clear hW5;go_wp2_with fail;refine (htC.out _ hE5).mono ?_;rintro e W9 ⟨rfl,hW9,hE9⟩;have HW9:=hid (show WkR w0.heap.size W9 n c ⟨p,ga,ca,gl,cl,gr,cr⟩ aa al ar (Qc t (k+1) s1) by rw [Hst.out];exact hW9);clear hW9 htC;obtain ⟨q,hq⟩ : ∃q,q=z.fmod y:=⟨_,rfl⟩
     rw [<-hq] at hitz Hsk ⊢;clear hq;obtain ⟨okj,hokj⟩ : ∃okj,okj=Yg t k s1:=⟨_,rfl⟩
     rw [<-hokj] at Hsk ⊢;clear hokj;obtain ⟨okk,hokk⟩ : ∃okk,okk=(ok1&&okj):=⟨_,rfl⟩
     have Hokk:=hid (show (ok1&&(okj&&decide (q=0)))=(okk&&decide (q=0)) by rw [hokk,Bool.and_assoc]);rw [<-hokk];clear hokk
     cases okk
     ·go_wp2_with fail;go_roundw
      case rel=>exact ⟨k+1,by omega,Hidx.out,by rw [Hsk.out,Hokk.out];rfl,HW9,hE9⟩
      case measure=>simp [intOf]<;>omega
     ·go_wp2_with fail;go_roundw
      case rel=>exact ⟨k+1,by omega,Hidx.out,by rw [Hsk.out,Hokk.out];simp,HW9,hE9⟩
      case measure=>simp [intOf]<;>omega
    ·have hdI : ¬(d:Int)<(c:Int):=by omega
     have hkC:k=C:=by omega
     clear hd;subst hkC;rw [<-Hok.out];have hWf:=hW2.out;rw [<-Hcl.out] at hWf;have HWf:=hid hWf;clear hWf;go_wp2_with fail;go_ret;exact ⟨rfl,HWf.out,hE3⟩
theorem Kcw {A:Mx} {t i k:Nat} (h:Xl A t i k=true) : ∀m,Xl A t i (k+m)=true
 | 0=>h
 | m+1=>by rw [<-Nat.add_assoc,Xl,Kcw h m];rfl
theorem Keq {A:Mx} {t w j x:Nat} (h:Q6 A t w j=some x) : ∀m,Q6 A t w (j+m)=some x
 | 0=>h
 | m+1=>by rw [<-Nat.add_assoc,Q6,Keq h m]
theorem KnE {A:Mx} {t w j N k:Nat} (h:Q6 A t w j=none) (hk:k<=w) (hb:Xl A t (t+1+j) k=true) (hj:j<N):Q6 A t w N=some (t+1+j):=by
 have h1:Xl A t (t+1+j) w=true:=by have:=Kcw hb (w-k);rwa [show k+(w-k)=w by omega] at this
 have h2:Q6 A t w (j+1)=some (t+1+j):=by rw [Q6,h];simp [h1]
 have:=Keq h2 (N-(j+1));rwa [show j+1+(N-(j+1))=N by omega] at this
def spI (b:Option Nat):Nat:=match b with | none=>0 | some i=>i
def spB (b:Option Nat):Bool:=match b with | none=>false | some _=>true
theorem Klr {B:Nat} {w:World} {n c E:Nat} {x:Wa} {aa al ar:List (Nat×Nat)} {s:Dg} {t:Nat} (h:WkR B w n c x aa al ar s) (htn:t<n) (htc:t<c) (hn2:n<=1000000) (hc2:c<=1000000) (hA:BM E s.a) (hp:eM s.a t t≠0) (hE:2*E+2<LIM) (hL:Laid w) :
  Calls Tryz.prog 94 #[.pointer (some ⟨x.p,0,none⟩),.int .i64 t] w λe w' =>
   e = .returned (.tuple #[.int .i64 (spI (Q6 s.a t (c-(t+1)) (n-(t+1))):Nat),.bool (spB (Q6 s.a t (c-(t+1)) (n-(t+1))))])/\Ext w w':=by
 obtain ⟨p,ga,ca,gl,cl,gr,cr⟩:=x;have hcA:=h.c0;have hc3:=h.c3;simp only at hcA hc3;have HW:=hid h;have HA:=hid hA;have Hp:=hid hp;have HE:=hid hE;have HL:=hid hL;have hc0:0<c:=by omega
 obtain ⟨N,hN⟩ : ∃N,N=n-(t+1):=⟨_,rfl⟩
 obtain ⟨C,hC⟩ : ∃C,C=c-(t+1):=⟨_,rfl⟩
 have hNn:t+1+N=n:=by omega
 have hCc:t+1+C=c:=by omega
 have htI:(t:Int)<(n:Int):=by omega
 have htcI:(t:Int)<(c:Int):=by omega
 rw [<-hN,<-hC];obtain ⟨R,hR⟩ : ∃R,R=Q6 s.a t C N:=⟨_,rfl⟩
 rw [<-hR];have HR:=hid hR;clear h hA hp hE hL hN hC hR
 go_enter Tryz.func94,Tryz.ntmps94
 go_wp2_with fail
 go_loopw [6] (λidx wr => ∃j:Nat,j<=N/\idx = .int .i64 ((t+1+j:Nat):Int)/\Hid (Q6 s.a t C j=none)/\Ext w wr) (λidx _=>n-(intOf idx).toNat)
 case atStart=>exact ⟨0,by omega,by simp,hid rfl,Ext.refl _⟩
 case round =>
  obtain ⟨j,hj,rfl,hS,hE1⟩:=hrel;generalize wr=V at *;obtain ⟨i,hi⟩ : ∃i,i=t+1+j:=⟨_,rfl⟩
  rw [<-hi];have hcV:=hE1.cell hcA;have hc3V:=hE1.cell hc3
  by_cases hjl:j<N
  ·have hin:i<n:=by omega
   have hiI:(i:Int)<(n:Int):=by omega
   have hidx:(Value.int .i64 ((i:Int)+1)) = .int .i64 ((t+1+(j+1):Nat):Int):=by rw [show ((t+1+(j+1):Nat):Int)=(i:Int)+1 by omega]
   have Hidx:=hid hidx;have Hi:=hid hi;clear hi hidx;go_wp2_with fail
   go_loopw [7] (λidx wr => ∃k:Nat,k<=C/\idx = .int .i64 ((t+1+k:Nat):Int)/\Hid (Xl s.a t i k=false)/\Ext w wr) (λidx _=>c-(intOf idx).toNat)
   case atStart=>exact ⟨0,by omega,by simp,hid rfl,hE1⟩
   case round =>
    obtain ⟨k,hk,rfl,hB,hE2⟩:=hrel;generalize wr=Y at *;obtain ⟨d,hd⟩ : ∃d,d=t+1+k:=⟨_,rfl⟩
    rw [<-hd];have hcY:=hE2.cell hcA;have hc3Y:=hE2.cell hc3
    by_cases hkl:k<C
    ·have hdc:d<c:=by omega
     have hdI:(d:Int)<(c:Int):=by omega
     obtain ⟨gx,cx,_,_,h1,_,_,hel1⟩:=(HW.out.a.ext hE2).atM HW.out.ra hc0 (by rw [HW.out.la];exact hin:i<_);obtain ⟨gt,ct,_,_,h2,_,_,hel2⟩:=(HW.out.a.ext hE2).atM HW.out.ra hc0 (by rw [HW.out.la];exact htn:t<_);have e1:=hel1 d hdc;have e2:=hel2 t htc;simp only at h1 h2;obtain ⟨z,hz⟩ : ∃z,z=eM s.a i d:=⟨_,rfl⟩
     obtain ⟨y,hy⟩ : ∃y,y=eM s.a t t:=⟨_,rfl⟩
     rw [<-hz] at e1;rw [<-hy] at e2;have hzb:z.natAbs<2^E:=by rw [hz];exact HA.out.el i d
     have hyb:y.natAbs<2^E:=by rw [hy];exact HA.out.el t t
     have hy0:y≠0:=by rw [hy];exact Hp.out
     have Hzl:Hid (nd z<LIM):=by have:=Kv hzb;have:=HE.out;exact hid (by omega)
     have Hyl:Hid (nd y<LIM):=by have:=Kv hyb;have:=HE.out;exact hid (by omega)
     have Hy0:=hid hy0;have Hbs:=hid (show Xl s.a t i (k+1)=decide (z.fmod y≠0) by rw [Xl,hB.out,hz,hy,hd];simp);have hidx2:(Value.int .i64 ((d:Int)+1)) = .int .i64 ((t+1+(k+1):Nat):Int):=by rw [show ((t+1+(k+1):Nat):Int)=(d:Int)+1 by omega]
     have Hidx2:=hid hidx2;have bD:=hid (Qn (w:=Y) (λW h=>Qf (a:=z) (b:=y) (w:=W) Hzl.out Hyl.out Hy0.out (HL.out.ext (hE2.trans h))));have hitz:(Lib.itoa (z.fmod y)==[48])=decide (z.fmod y=0):=KB _;have k1:=cell_regrown hcY;have k2:=cell_regrown h1;have k3:=cell_regrown h2;have k4:=cell_regrown e1;have k5:=cell_regrown e2;clear hel1 hel2 hz hy hzb hyb hy0 hidx2 hd;go_wp2_with fail;refine wp_region_quiet_below (by kernel_rfl) (by kernel_rfl) ?_
     repeat (go_big_quiet_step (exact bD.out _ _))
     refine wpQuiet_nil ?_;intro _ hw';obtain ⟨⟨dq,osq⟩,hw''⟩:=hw';subst hw'';have hE5:=hE2.trans (Kk Y dq osq);clear bD k1 k2 k3 k4 k5;generalize hW5:grow (redrawn _ _) _=W5 at *;clear hW5;obtain ⟨q,hq⟩ : ∃q,q=z.fmod y:=⟨_,rfl⟩
     rw [<-hq] at hitz Hbs ⊢;clear hq
     by_cases hq0:q=0
     ·rw [decide_eq_true hq0] at hitz;have hitz2:(Lib.itoa q != [48])=false:=by simp [bne,hitz]
      have Hb2:=hid (show Xl s.a t i (k+1)=false by rw [Hbs.out,hq0];rfl);clear hq0;go_wp2_with fail;go_roundw
      case rel=>exact ⟨k+1,by omega,Hidx2.out,Hb2,hE5⟩
      case measure=>simp [intOf]<;>omega
     ·rw [decide_eq_false hq0] at hitz;have hitz2:(Lib.itoa q != [48])=true:=by simp [bne,hitz]
      have Hb2:=hid (show R=some i by
       rw [HR.out,Hi.out]
       exact KnE hS.out (by omega:k+1<=C) (by rw [<-Hi.out,Hbs.out];exact decide_eq_true hq0) hjl)
      clear hq0;go_wp2_with fail;go_ret2;exact ⟨by rw [Hb2.out];rfl,hE5⟩
    ·have hdI : ¬(d:Int)<(c:Int):=by omega
     have hkC:k=C:=by omega
     clear hd;subst hkC;have Hn:=hid (show Q6 s.a t k (j+1)=none by rw [Q6,hS.out];simp only;rw [<-Hi.out,hB.out];rfl);go_wp2_with fail;go_roundw
     case rel=>exact ⟨j+1,by omega,Hidx.out,Hn,hE2⟩
     case measure=>simp [intOf]<;>omega
  ·have hiI : ¬(i:Int)<(n:Int):=by omega
   have hjN:j=N:=by omega
   clear hi;subst hjN;have Hn:=hid (show R=none by rw [HR.out];exact hS.out);go_wp2_with fail;go_ret2;exact ⟨by rw [Hn.out];rfl,hE1⟩
def InB (A:Mx) (t n c:Nat) (b:Option (Nat×Nat)):Prop := ∀p,b=some p->t<=p.1/\p.1<n/\t<=p.2/\p.2<c/\eM A p.1 p.2≠0
theorem Kn6 {A:Mx} {t n c i k:Nat} {b:Option (Nat×Nat)} (h:InB A t n c b) (h1:t<=i) (h2:i<n) (h3:t<=k) (h4:k<c):InB A t n c (KcU A b i k):=by
 intro p hp;unfold KcU at hp;split at hp
 ·exact h p hp
 ·rename_i hz
  split at hp
  ·injection hp with hp;subst hp;exact ⟨h1,h2,h3,h4,hz⟩
  ·split at hp
   ·injection hp with hp;subst hp;exact ⟨h1,h2,h3,h4,hz⟩
   ·exact h p hp
theorem KaT {A:Mx} {t n c i:Nat} {b:Option (Nat×Nat)} (h:InB A t n c b) (h1:t<=i) (h2:i<n) : ∀k,t+k<=c->InB A t n c (ZB A i t b k)
 | 0,_=>h
 | k+1,hk=>by rw [ZB];exact Kn6 (KaT h h1 h2 k (by omega)) h1 h2 (by omega) (by omega)
theorem KaS {A:Mx} {t n c:Nat} (hc:t<=c) : ∀i,t+i<=n->InB A t n c (QN A t (c-t) i)
 | 0,_=>λp hp=>by cases hp
 | i+1,hi=>by rw [QN];exact KaT (KaS hc i (by omega)) (by omega) (by omega) _ (by omega)
def lrB (b:Option (Nat×Nat)):Nat:=match b with | none=>0 | some p=>p.1
def lcB (b:Option (Nat×Nat)):Nat:=match b with | none=>0 | some p=>p.2
def lfB (b:Option (Nat×Nat)):Bool:=match b with | none=>false | some _=>true
theorem KoD {B:Nat} {w:World} {n c E:Nat} {x:Wa} {aa al ar:List (Nat×Nat)} {s:Dg} {t:Nat} (h:WkR B w n c x aa al ar s) (hc:0<c) (ht:t<=n) (htc:t<=c) (hn2:n<=1000000) (hc2:c<=1000000) (hA:BM E s.a) (hE:2*E+2<LIM) :
  Calls Tryz.prog 91 #[.pointer (some ⟨x.p,0,none⟩),.int .i64 t] w λe w' =>
   e = .returned (.tuple #[.int .i64 (lrB (QN s.a t (c-t) (n-t)):Nat),.int .i64 (lcB (QN s.a t (c-t) (n-t)):Nat),.bool (lfB (QN s.a t (c-t) (n-t)))])/\Ext w w':=by
 obtain ⟨p,ga,ca,gl,cl,gr,cr⟩:=x;have hcA:=h.c0;have hc3:=h.c3;simp only at hcA hc3;have HW:=hid h;have HA:=hid hA;have HE:=hid hE;have Hin:=hid (λi (hi:t+i<=n)=>KaS (A:=s.a) (n:=n) htc i hi);obtain ⟨N,hN⟩ : ∃N,N=n-t:=⟨_,rfl⟩
 obtain ⟨C,hC⟩ : ∃C,C=c-t:=⟨_,rfl⟩
 rw [<-hN,<-hC];rw [<-hC] at Hin;have hNn:t+N=n:=by omega
 have hCc:t+C=c:=by omega
 clear h hA hE hN hC
 go_enter Tryz.func91,Tryz.ntmps91
 go_wp2_with fail
 go_loopw [4,5,6,7] (λrv cv fv idx wr => ∃i:Nat,i<=N/\idx = .int .i64 ((t+i:Nat):Int)/\rv = .int .i64 (lrB (QN s.a t C i):Nat)/\cv = .int .i64 (lcB (QN s.a t C i):Nat)/\fv = .bool (lfB (QN s.a t C i))/\Ext w wr) (λ_ _ _ idx _=>n-(intOf idx).toNat)
 case atStart=>exact ⟨0,by omega,by simp,rfl,rfl,rfl,Ext.refl _⟩
 case round =>
  obtain ⟨i,hi,rfl,rfl,rfl,rfl,hE1⟩:=hrel;generalize wr=V at *;obtain ⟨a,ha⟩ : ∃a,a=t+i:=⟨_,rfl⟩
  rw [<-ha];have hcV:=hE1.cell hcA;have hc3V:=hE1.cell hc3
  by_cases hlt:i<N
  ·have haI:(a:Int)<(n:Int):=by omega
   have Ha:=hid ha;have Hb0:=hid (Hin.out i (by omega));obtain ⟨b0,hb0⟩ : ∃b0,b0=QN s.a t C i:=⟨_,rfl⟩
   have Hnx:=hid (show QN s.a t C (i+1)=ZB s.a a t b0 C by rw [QN,hb0,ha]);rw [<-hb0];rw [<-hb0] at Hb0;have hidx:(Value.int .i64 ((a:Int)+1)) = .int .i64 ((t+(i+1):Nat):Int):=by rw [show ((t+(i+1):Nat):Int)=(a:Int)+1 by omega]
   have Hidx:=hid hidx;have han:a<n:=by omega
   have hta:t<=a:=by omega
   clear ha hb0 hidx;go_wp2_with fail
   go_loopw [4,5,6,8] (λrv cv fv idx wr => ∃k:Nat,k<=C/\idx = .int .i64 ((t+k:Nat):Int)/\rv = .int .i64 (lrB (ZB s.a a t b0 k):Nat)/\cv = .int .i64 (lcB (ZB s.a a t b0 k):Nat)/\fv = .bool (lfB (ZB s.a a t b0 k))/\Ext w wr) (λ_ _ _ idx _=>c-(intOf idx).toNat)
   case atStart=>exact ⟨0,by omega,by simp,rfl,rfl,rfl,hE1⟩
   case round =>
    obtain ⟨k,hk,rfl,rfl,rfl,rfl,hE2⟩:=hrel;generalize wr=Y at *;obtain ⟨d,hd⟩ : ∃d,d=t+k:=⟨_,rfl⟩
    rw [<-hd];have hcY:=hE2.cell hcA;have hc3Y:=hE2.cell hc3
    by_cases hkl:k<C
    ·have hdI:(d:Int)<(c:Int):=by omega
     obtain ⟨gx,cx,_,_,h1,o1,_,hel⟩:=(HW.out.a.ext hE2).atM HW.out.ra hc (by rw [HW.out.la];exact han:a<_);have h2:=hel d (by omega);simp only at h1;obtain ⟨z,hz⟩ : ∃z,z=eM s.a a d:=⟨_,rfl⟩
     rw [<-hz] at h2;have Hzb:=hid (show z.natAbs<2^E by rw [hz];exact HA.out.el a d);have hb1:=KaT Hb0.out hta han k (by omega);obtain ⟨b1,hbe⟩ : ∃b1,b1=ZB s.a a t b0 k:=⟨_,rfl⟩
     have Hnx2:=hid (show ZB s.a a t b0 (k+1)=KcU s.a b1 a d by rw [ZB,hbe,hd]);rw [<-hbe] at hb1 ⊢;have hidx:(Value.int .i64 ((d:Int)+1)) = .int .i64 ((t+(k+1):Nat):Int):=by rw [show ((t+(k+1):Nat):Int)=(d:Int)+1 by omega]
     have Hidx2:=hid hidx;have hitz:(Lib.itoa z==[48])=decide (z=0):=KB z;have Hz:=hid hz;have Hb1:=hid hb1;have k1:=cell_regrown hcY;have k2:=cell_regrown h1;have k3:=cell_regrown h2;clear hz hbe hd hidx hel o1 hb1
     by_cases hz0:z=0
     ·have hb:KcU s.a b1 a d=b1:=by unfold KcU;rw [if_pos (by rw [<-Hz.out];exact hz0)]
      rw [hb] at Hnx2;rw [decide_eq_true hz0] at hitz;have hitz2:(Lib.itoa z != [48])=false:=by simp [bne,hitz]
      clear hz0 hb;go_wp2_with fail;refine wp_region_quiet_below (by kernel_rfl) (by kernel_rfl) ?_
      repeat (go_big_quiet_step (fail))
      refine wpQuiet_nil ?_;intro _ hw';obtain ⟨⟨dq,osq⟩,hw''⟩:=hw';subst hw'';have hE5:=hE2.trans (Kk _ dq osq);clear k1 k2 k3;go_wp2_with fail;go_roundw
      case rel=>exact ⟨k+1,by omega,Hidx2.out,by rw [Hnx2.out],by rw [Hnx2.out],by rw [Hnx2.out],hE5⟩
      case measure=>simp [intOf]<;>omega
     ·rw [decide_eq_false hz0] at hitz;have hitz2:(Lib.itoa z != [48])=true:=by simp [bne,hitz]
      cases b1 with
      | none =>
       have hb:KcU s.a none a d=some (a,d):=by unfold KcU;rw [if_neg (by rw [<-Hz.out];exact hz0)]
       rw [hb] at Hnx2;clear hz0 hb;simp only [lrB,lcB,lfB];go_wp2_with fail;refine wp_region_quiet_below (by kernel_rfl) (by kernel_rfl) ?_
       repeat (go_big_quiet_step (fail))
       refine wpQuiet_nil ?_;intro _ hw';obtain ⟨⟨dq,osq⟩,hw''⟩:=hw';subst hw'';have hE5:=hE2.trans (Kk _ dq osq);clear k1 k2 k3;go_wp2_with fail;go_roundw
       case rel=>exact ⟨k+1,by omega,Hidx2.out,by rw [Hnx2.out],by rw [Hnx2.out],by rw [Hnx2.out],hE5⟩
       case measure=>simp [intOf]<;>omega
      | some q =>
       obtain ⟨q1,q2⟩:=q;obtain ⟨r1,r2,r3,r4,r5⟩:=Hb1.out (q1,q2) rfl;simp only at r1 r2 r3 r4 r5;have hq1:(q1:Int)<(n:Int):=by omega
       have hq2:(q2:Int)<(c:Int):=by omega
       obtain ⟨gq,cq,_,_,h3,_,_,helq⟩:=(HW.out.a.ext hE2).atM HW.out.ra hc (by rw [HW.out.la];exact r2:q1<_);have h4:=helq q2 r4;simp only at h3;obtain ⟨y,hy⟩ : ∃y,y=eM s.a q1 q2:=⟨_,rfl⟩
       rw [<-hy] at h4;have hyb:y.natAbs<2^E:=by rw [hy];exact HA.out.el q1 q2
       have hzl:nd z<=LIM:=by have:=Kv Hzb.out;have:=HE.out;omega
       have hyl:nd y<=LIM:=by have:=Kv hyb;have:=HE.out;omega
       have hzl':nd (z.natAbs:Int)<=LIM:=by unfold nd at *;rw [Int.natAbs_natCast];exact hzl
       have hyl':nd (y.natAbs:Int)<=LIM:=by unfold nd at *;rw [Int.natAbs_natCast];exact hyl
       have k4:=cell_regrown h3;have k5:=cell_regrown h4;have bA:=hid (λ(t:Int) (ht:nd t<=LIM)=>Qn (w:=Y) (λW h=>(Kag (z:=t) ht W)));have Hzl:=hid hzl;have Hyl:=hid hyl;have b3:=hid (Qn (w:=Y) (λW h=>(JG (a:=(z.natAbs:Int)) (b:=(y.natAbs:Int)) hzl' hyl' W)));have Hcmp:=hid (show Jc z.natAbs y.natAbs<0↔z.natAbs<y.natAbs by unfold Jc;split<;>(try split)<;>omega);obtain ⟨m,hm⟩ : ∃m,m=Jc z.natAbs y.natAbs:=⟨_,rfl⟩
       rw [<-hm] at b3 Hcmp;have Hy:=hid hy;have HB2:=hid (show KcU s.a (some (q1,q2)) a d=if z.natAbs<y.natAbs then some (a,d) else some (q1,q2) by unfold KcU;rw [if_neg (by rw [<-Hz.out];exact hz0),Hz.out,hy]);simp only [lrB,lcB,lfB];clear hz0 hy hyb hzl hyl hzl' hyl' hm r1 r2 r3 r4 r5 helq
       rcases Decidable.em (z.natAbs<y.natAbs) with hzy | hzy
       ·have hq0:m<0:=Hcmp.out.2 hzy;have hqd:decide (m<0)=true:=decide_eq_true hq0;rw [if_pos hzy] at HB2;rw [HB2.out] at Hnx2;clear hzy HB2;go_wp2_with fail;refine wp_region_quiet_below (by kernel_rfl) (by kernel_rfl) ?_
        repeat (go_big_quiet_step (first | (refine bA.out _ ?_ _ _;first | exact Hzl.out | exact Hyl.out) | exact b3.out _ _))
        refine wpQuiet_nil ?_;intro _ hw';obtain ⟨⟨dq,osq⟩,hw''⟩:=hw';subst hw'';have hE5:=hE2.trans (Kk _ dq osq);clear bA b3 k1 k2 k3 k4 k5;go_wp2_with fail;go_roundw
        case rel=>exact ⟨k+1,by omega,Hidx2.out,by rw [Hnx2.out],by rw [Hnx2.out],by rw [Hnx2.out],hE5⟩
        case measure=>simp [intOf]<;>omega
       ·have hq0:0<=m:=by have:=mt Hcmp.out.1 hzy;omega
        have hqd:decide (m<0)=false:=decide_eq_false (by omega);rw [if_neg hzy] at HB2;rw [HB2.out] at Hnx2;clear hzy HB2;go_wp2_with fail;refine wp_region_quiet_below (by kernel_rfl) (by kernel_rfl) ?_
        repeat (go_big_quiet_step (first | (refine bA.out _ ?_ _ _;first | exact Hzl.out | exact Hyl.out) | exact b3.out _ _))
        refine wpQuiet_nil ?_;intro _ hw';obtain ⟨⟨dq,osq⟩,hw''⟩:=hw';subst hw'';have hE5:=hE2.trans (Kk _ dq osq);clear bA b3 k1 k2 k3 k4 k5;go_wp2_with fail;go_roundw
        case rel=>exact ⟨k+1,by omega,Hidx2.out,by rw [Hnx2.out],by rw [Hnx2.out],by rw [Hnx2.out],hE5⟩
        case measure=>simp [intOf]<;>omega
    ·have hdI : ¬(d:Int)<(c:Int):=by omega
     have hke:k=C:=by omega
     clear hd;subst hke;go_wp2_with fail;go_roundw
     case rel=>exact ⟨i+1,by omega,Hidx.out,by rw [Hnx.out],by rw [Hnx.out],by rw [Hnx.out],hE2⟩
     case measure=>simp [intOf]<;>omega
  ·have haI : ¬(a:Int)<(n:Int):=by omega
   have hie:i=N:=by omega
   clear ha;subst hie;go_wp2_with fail
   go_ret3
   exact ⟨rfl,hE1⟩
theorem Kl2 {E:Nat} {l:List Int} {i:Nat} {v:Int} (h : ∀z∈l,z.natAbs<2^E) (hv:v.natAbs<2^E) : ∀z∈l.set i v,z.natAbs<2^E:=λz hz=>by
 rcases List.mem_or_eq_of_mem_set hz with hz | rfl
 ·exact h z hz
 ·exact hv
theorem Kjz {E:Nat} {l:List Int} (h : ∀z∈l,z.natAbs<2^E) (i:Nat):(l.getD i 0).natAbs<2^E:=by
 rcases Nat.lt_or_ge i l.length with hi | hi
 ·rw [Ka hi];exact h _ (List.getElem_mem hi)
 ·rw [List.getD_eq_getElem?_getD,List.getElem?_eq_none hi];exact Nat.pow_pos (by omega)
theorem Kdq {E i j:Nat} {A:Mx} (h:BM E A):BM E (ZC i j A):=λr hr=>by
 obtain ⟨l,hl,rfl⟩:=List.mem_map.1 hr;exact Kl2 (Kl2 (h l hl) (Kjz (h l hl) _)) (Kjz (h l hl) _)
theorem Kdr {E i j:Nat} {A:Mx} (h:BM E A) (hi:i<A.length) (hj:j<A.length):BM E (Zq i j A):=λr hr=>h r (Kdh hi hj hr)
theorem Ko1 {E n t i k:Nat} {s:Dg} (ha:BM E s.a) (hl:BM E s.l) (hr:BM E s.r) (la:s.a.length=n) (ll:s.l.length=n) (ht:t<n) (hi:i<n):BM E (Kp t i k s).a/\BM E (Kp t i k s).l/\BM E (Kp t i k s).r :=
 ⟨Kdq (Kdr ha (by omega) (by omega)),Kdr hl (by omega) (by omega),Kdq hr⟩
theorem Klz {n c t i k:Nat} {s:Dg} (la:s.a.length=n) (ra:Ku c s.a) (ht:t<n) (hi:i<n) (htc:t<c) (hk:k<c):eM (Kp t i k s).a t t=eM s.a i k:=by
 show eM (ZC t k (Zq t i s.a)) t t=_;rw [Kcy,Ji _ (by simp [swapL])]
 have e:(Zq t i s.a).getD t []=s.a.getD i []:=by
  rw [KcL,Xe _ _ (by omega) (by omega)]
  by_cases h:t=i
  ·rw [if_pos h,h]
  ·rw [if_neg h,if_pos rfl]
 have hl:(s.a.getD i []).length=c:=by rw [Ka (by omega)];exact ra _ (List.getElem_mem _)
 rw [e];unfold swapL;rw [Q4 _ _ _ _ _ (by rw [List.length_set,hl];exact hk),Q4 _ _ _ _ _ (by rw [hl];exact htc)]
 by_cases h:t=k
 ·rw [if_pos h,h];rfl
 ·rw [if_neg h,if_pos rfl];rfl
theorem Kmb {E n c t:Nat} {s:Dg} (ha:BM E s.a) (hl:BM E s.l) (hr:BM E s.r) (la:s.a.length=n) (ll:s.l.length=n) (ra:Ku c s.a) (ht:t<n) (htc:t<c) (hp:eM s.a t t≠0) :
  BM (4*E+3) (Kw n c t s).a/\BM (4*E+3) (Kw n c t s).l/\BM (4*E+3) (Kw n c t s).r/\eM (Kw n c t s).a t t=eM s.a t t:=by
 have h1:=KhR (s:=s) (t:=t) (j:=n-(t+1)) (E:=E) (by omega) (by omega) ha hl hp;have h2:=ZU t s (n-(t+1));have h3:=(QZ t s (by omega) (n-(t+1)) (by omega) t).1;rw [if_neg (by omega)] at h3
 have hR1:Ku c (Kn t (n-(t+1)) s).a:=λr hr2=>by
  obtain ⟨i,hi,rfl⟩:=List.getElem_of_mem hr2;have h4:=(QZ t s (by omega) (n-(t+1)) (by omega) i).1;rw [Ka hi] at h4;have hl2:(s.a.getD i []).length=c:=by rw [Ka (by omega)];exact ra _ (List.getElem_mem _)
  rw [h4];split
  ·rw [KV];exact hl2
  ·exact hl2
 have hp1:eM (Kn t (n-(t+1)) s).a t t=eM s.a t t:=by unfold eM;rw [h3]
 have hr1:BM (2*E+1) (Kn t (n-(t+1)) s).r:=by rw [h2.2.2];exact hr.mono (by omega)
 have h5:=KgS (s:=Kn t (n-(t+1)) s) (t:=t) (c:=c) (j:=c-(t+1)) (E:=2*E+1) hR1 (by omega) (by omega) h1.1 hr1 (by rw [hp1];exact hp);obtain ⟨i1,i2,i3⟩:=Yh t c (Kn t (n-(t+1)) s) hR1 (by omega) (c-(t+1)) (by omega);have e4:2*(2*E+1)+1=4*E+3:=by omega
 rw [e4] at h5;refine ⟨h5.1,?_,h5.2,?_⟩
 ·show BM _ (Qc t (c-(t+1)) (Kn t (n-(t+1)) s)).l;rw [i2];exact h1.2.mono (by omega)
 ·show eM (Qc t (c-(t+1)) (Kn t (n-(t+1)) s)).a t t=_;have hrl:((Kn t (n-(t+1)) s).a.getD t []).length=c:=by rw [Ka (by omega)];exact hR1 _ (List.getElem_mem _)
  rw [i1,Ji _ (by simp [YK]),QS,if_pos (by omega),if_neg (by omega),<-hp1];rfl
theorem KhW {A:Mx} {t w:Nat} : ∀{j i:Nat},Q6 A t w j=some i->t<i/\i<t+1+j
 | 0,i,h=>by cases h
 | j+1,i,h=>by
  rw [Q6] at h
  cases hs:Q6 A t w j with
  | some x =>
   rw [hs] at h;injection h with h
   have:=KhW hs;omega
  | none =>
   rw [hs] at h;simp only at h;split at h
   ·injection h with h;omega
   ·cases h
theorem Kpf {E:Nat} {s:Dg} (h:KcT E s=true):BM E s.a/\BM E s.l/\BM E s.r:=by
 unfold KcT at h;simp only [Bool.and_eq_true] at h;have hm : ∀A,Kl0 E A=true->BM E A:=λA hA r hr z hz=>of_decide_eq_true (List.all_eq_true.1 (List.all_eq_true.1 hA r hr) z hz)
 exact ⟨hm _ h.1.1,hm _ h.1.2,hm _ h.2⟩
theorem Klo {E n c f t:Nat} {s:Dg} {R:Nat×Dg} (h:Ka0 E n c f t s=some R) : ∃g,f=g+1/\KcT E s=true/\((Xc n c t s=none/\R=(t,s)) \/ ∃q,Xc n c t s=some q/\Ka0 E n c g q.1 q.2=some R):=by
 cases f with
 | zero=>cases h
 | succ g =>
  rw [Ka0] at h;split at h
  ·rename_i hb
   refine ⟨g,rfl,hb,?_⟩
   cases hs:Xc n c t s with
   | none=>rw [hs] at h;injection h with h;exact .inl ⟨rfl,h.symm⟩
   | some q=>rw [hs] at h;exact .inr ⟨q,rfl,h⟩
  ·cases h
end
end Go.Proofs.YtdmaofimeknkbaaGreatDoor
