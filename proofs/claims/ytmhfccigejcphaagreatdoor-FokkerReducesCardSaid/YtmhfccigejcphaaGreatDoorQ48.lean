/- Part 48 of the proof of the claim: contracts of the functions that it reaches, and plain laws; no condition. -/
import Derived.Test.YtmhfccigejcphaaGreatDoorQ45
import Derived.Test.YtmhfccigejcphaaGreatDoorQ47
import Derived.Test.YtmhfccigejcphaaGreatDoorQ02
import Derived.Test.YtmhfccigejcphaaGreatDoorQ11
import Derived.Test.YtmhfccigejcphaaGreatDoorRows
import Derived.ProofKit
import Derived.LaidMore
import Derived.OpenShut
import Derived.Stop.Joined
import Derived.Stop.LaidErr
import Derived.Lib.LaidTab
import Derived.Deep.Matrix
import Derived.Test.YtmhfccigejcphaaGreatDoorQ44
import Derived.Test.YtmhfccigejcphaaGreatDoorCards
import Derived.Test.YtmhfccigejcphaaGreatDoorTie
import Derived.SevenTiedAt
set_option maxRecDepth 100000
set_option maxHeartbeats 20000000
namespace Go.Proofs.YtmhfccigejcphaaGreatDoor
section
open Go.RowKit Go.Sort
open Lib (hid)
theorem KnO {l:List Rat} {n:Nat} (h:l.length=n):coL (λj=>l.getD j 0) n=l:=by
 refine List.ext_getElem (by simp [h]) λi h1 h2 => ?_
 simp [coL,List.getElem?_eq_getElem h2]
theorem Kpk {D V:Int}:D/V*V+D%V=D:=by
 have h:=Int.mul_ediv_add_emod D V;rw [Int.mul_comm] at h;exact h
theorem Kku {w:World} {p:Int} {u:Nat->Nat->Int} {o l:Nat->Int} (hp:0<=p/\p<=255) (hu : ∀i k,-128<=u i k/\u i k<=127) (ho : ∀i,-128<=o i/\o i<=127) (hl : ∀i,-128<=l i/\l i<=127) (hL:Laid w) :
  Calls Tryz.prog 7 #[plv p u o,.agg #[.int .i8 (l 0),.int .i8 (l 1),.int .i8 (l 2),.int .i8 (l 3)]] w λe w'=>e = .returned (.bool true)/\Ext w w':=by
 have hmk:=hid (λW (hW:Ext w W)=>Kin (w:=W) hp hu ho (hL.ext hW));have hkn:=hid (λW (hW:Ext w W)=>Kg5 (w:=W) (hL.ext hW));have HL:=hid hL;have ha4:=hid (Kph hl);have e1:=(Ext.refl w).alloc (.cells #[.int .u8 p,.int .i8 (u 0 0),.int .i8 (u 0 1),.int .i8 (u 0 2),.int .i8 (u 1 0),.int .i8 (u 1 1),.int .i8 (u 1 2),.int .i8 (o 0),.int .i8 (o 1)] 56);have e2:=e1.alloc (.cells #[.int .i8 (l 0),.int .i8 (l 1),.int .i8 (l 2),.int .i8 (l 3)] 57);clear hp hu ho hl hL
 go_enter Tryz.func7,Tryz.ntmps7
 go_upto_region 1 with fail;have b9:=KqO w p u o;have s1:(w.alloc (.cells #[.int .u8 p,.int .i8 (u 0 0),.int .i8 (u 0 1),.int .i8 (u 0 2),.int .i8 (u 1 0),.int .i8 (u 1 1),.int .i8 (u 1 2),.int .i8 (o 0),.int .i8 (o 1)] 56)).heap.size=w.heap.size+1:=by simp
 generalize w.alloc (.cells #[.int .u8 p,.int .i8 (u 0 0),.int .i8 (u 0 1),.int .i8 (u 0 2),.int .i8 (u 1 0),.int .i8 (u 1 1),.int .i8 (u 1 2),.int .i8 (o 0),.int .i8 (o 1)] _)=w1 at *;have b4:=hid (λj (hj:j<4)=>KoM (w:=w1) (T:=57) (ha4.out.at' j hj));have e12:=(Ext.refl w1).alloc (.cells #[.int .i8 (l 0),.int .i8 (l 1),.int .i8 (l 2),.int .i8 (l 3)] 57);generalize w1.alloc (.cells #[.int .i8 (l 0),.int .i8 (l 1),.int .i8 (l 2),.int .i8 (l 3)] _)=w2 at *;have p0:=e12.cell (b9 0 _ rfl);have p1:=e12.cell (b9 1 _ rfl);have p2:=e12.cell (b9 2 _ rfl);have p3:=e12.cell (b9 3 _ rfl);have p4:=e12.cell (b9 4 _ rfl);have p5:=e12.cell (b9 5 _ rfl);have p6:=e12.cell (b9 6 _ rfl);have p7:=e12.cell (b9 7 _ rfl);have p8:=e12.cell (b9 8 _ rfl);have c0:=b4.out 0 (by omega);have c1:=b4.out 1 (by omega);have c2:=b4.out 2 (by omega);have c3:=b4.out 3 (by omega);rw [s1] at c0 c1 c2 c3;clear s1 b9 b4 e1 e12;go_wp2_with fail;refine (hmk.out _ e2).mono ?_;rintro e X ⟨cp,cu,gm,sp,vo,f,rfl,⟨so,no,co,rfl⟩,hE1,hB⟩;have EX:Ext w X:=e2.trans hE1;replace c0:=hE1.cell c0;replace c1:=hE1.cell c1;replace c2:=hE1.cell c2;replace c3:=hE1.cell c3;obtain ⟨n,hn⟩ : ∃n,n=(XT p).length:=⟨_,rfl⟩
 obtain ⟨m,hm⟩ : ∃m,m=n-1:=⟨_,rfl⟩
 rw [<-hn,<-hm] at hB ⊢;have HB:=hid hB;have hbox:=JD X 60 (.slice sp n cp) (.slice (some ⟨gm,0,none⟩) m cu) (.slice so no co);have eA:Ext X (X.alloc (.cells #[.slice sp n cp,.slice (some ⟨gm,0,none⟩) m cu,.slice so no co] 60)):=(Ext.refl X).alloc _;obtain ⟨a0,a1,a2⟩:=Zp hbox;clear hn hm hB hbox hE1 hmk e2 p0 p1 p2 p3 p4 p5 p6 p7 p8;go_upto_region 2 with fail;generalize X.alloc (.cells #[.slice sp n cp,.slice (some ⟨gm,0,none⟩) m cu,.slice so no co] _)=Y at *;have EY:=EX.trans eA;go_wp2_with fail;refine (hkn.out _ EY).mono ?_;rintro e Z ⟨rfl,hEZ⟩;have EZ:=EY.trans hEZ
 cases f
 ·go_wp2_with fail;refine (hkn.out _ EZ).mono ?_;rintro e Z2 ⟨rfl,hE2⟩;go_wp2_with fail;go_ret;exact ⟨rfl,EZ.trans hE2⟩
 ·have hF:=hid ((HB.out rfl).ext (eA.trans hEZ));have EXZ:=eA.trans hEZ;replace a0:=hEZ.cell a0;replace a1:=hEZ.cell a1;replace a2:=hEZ.cell a2;replace c0:=EXZ.cell c0;replace c1:=EXZ.cell c1;replace c2:=EXZ.cell c2;replace c3:=EXZ.cell c3;have hn:=hF.out.hB.hn;have hPl:=hF.out.hPl;have hiv:=hid (Kdy hF.out.hP (by omega) ha4.out);rw [hPl] at hiv;clear EXZ HB eA hEZ EY EX hkn;go_wp2_with fail;refine hiv.out.mono ?_;rintro e Z1 ⟨v',rfl,hv,hE1⟩;have hxl:(ivL n [l 0,l 1,l 2,l 3]).length=n:=Kjx rfl (by omega);obtain ⟨x,hx⟩ : ∃x,x=ivL n [l 0,l 1,l 2,l 3]:=⟨_,rfl⟩
  rw [<-hx] at hv hxl;have hvR:=hv.row;obtain ⟨sx,ln,cx,rfl⟩:=hv.slice
  have hln:ln=n:=by
   obtain ⟨_,_,_,_,ee,_⟩:=hvR;injection ee with ee1 ee2 ee3
   rw [ee2];exact hxl
  subst ln;have Hxl:=hid hxl;have hn0:0<n:=by omega
  have hn3:n<=3:=by omega
  have Hn:=hid hn;have E1:=EZ.trans hE1;replace a0:=hE1.cell a0;replace a1:=hE1.cell a1;replace a2:=hE1.cell a2;have hF1:=hid (hF.out.ext hE1);have Hml:=hid hF.out.ml;have HB3:=hid hF.out.hB;have Hxb:=hid (show ∀z∈x,-9<=z/\z<=9 from λz hz=>Kn7 n [l 0,l 1,l 2,l 3] z (by rw [<-hx];exact hz));obtain ⟨M,hMq⟩ : ∃M,M=unM u n m:=⟨_,rfl⟩
  obtain ⟨O,hOq⟩ : ∃O,O=ofL o m:=⟨_,rfl⟩
  obtain ⟨P,hPq⟩ : ∃P,P=XT p:=⟨_,rfl⟩
  rw [<-hMq] at Hml HB3;rw [<-hMq,<-hOq,<-hPq] at hF1;obtain ⟨vl,hvq⟩ : ∃vl,vl=ZX n M:=⟨_,rfl⟩
  rw [<-hvq] at hF1 HB3;have HM:=hid (λW (hW:Ext Z1 W)=>(hF1.out.ext hW).hM);have Hval:=hid (Kfy (w:=Z1) (sp:=sp) (cp:=cp) (vo := .slice so no co) hn hF1.out.hM HB3.out.len HB3.out.rect HB3.out.bd);have Hok:=hid (HB3.out.okV);have Hvv:=hid hvq
  have Hmx:=hid (show mzE n x=0 by
   unfold mzE;rw [if_pos hxl,if_pos];unfold mzS;rw [List.all_eq_true];intro z hz;have:=Hxb.out z hz;rw [Bool.and_eq_true,decide_eq_true_eq,decide_eq_true_eq]
   omega)
  have Hx6:=hid (show ∀z∈x,z.natAbs<=1000000 from λz hz=>by have:=Hxb.out z hz;omega);have hX1:=hid hvR;clear hMq hOq hPq hvq c0 c1 c2 c3 hiv EZ hx hxl hPl hn hF hE1 hv hvR;go_wp2_with fail;refine Hval.out.mono ?_;rintro e Z2 ⟨hcase,hE2⟩
  rcases hcase with ⟨_,vv,rfl,hvv⟩ | ⟨hno,_⟩
  rotate_left
  ·rw [Hok.out] at hno;cases hno
  rw [<-Hvv.out] at hvv;have hvlen:=HB3.out.vlen;obtain ⟨sv,gv,ov,cv,rfl,hcv,hSv⟩:=hvv.row;rw [hvlen] at hcv ⊢;obtain rfl:=hSv.addr (by rw [Kv,hvlen];exact hn0);have hV2:=hid (show KQ Z2 (.slice (some ⟨gv,ov,none⟩) n cv) vl from by rw [<-hvlen];exact ⟨_,gv,ov,cv,rfl,by rw [hvlen];exact hcv,hSv⟩);obtain ⟨V,hVq⟩ : ∃V,V=vl.getD 0 0:=⟨_,rfl⟩
  have v0:Z2.cell? ⟨gv,ov,none⟩=some (.int .i64 V):=by
   have h:=hSv.cell 0 (.int .i64 V) (by rw [Qh (show 0<vl.length by rw [hvlen];exact hn0),hVq,Ka (show 0<vl.length by rw [hvlen];exact hn0)]);rwa [Nat.add_zero] at h
  have Hvlen:=hid hvlen;have E2:=E1.trans hE2;replace a0:=hE2.cell a0;replace a1:=hE2.cell a1;replace a2:=hE2.cell a2;have hF2:=hid (hF1.out.ext hE2);have hX2:=hid (hX1.out.ext hE2);have HVp:=hid (show 0<V/\V<=100 by rw [hVq];exact ⟨HB3.out.pos,HB3.out.le⟩);have HdV:=hid hVq;obtain ⟨D,hD⟩ : ∃D,D=Ys vl x n:=⟨_,rfl⟩
  have hdg:=hid (λW (hW:Ext Z2 W)=>Kj4 (hF2.out.ext hW) (hX2.out.ext hW) Hmx.out (HL.out.ext (E2.trans hW)));rw [<-hD,<-hVq] at hdg;have HD:=hid hD;obtain ⟨d,hdq⟩ : ∃d,d=D%V:=⟨_,rfl⟩
  obtain ⟨q,hqq⟩ : ∃q,q=D/V:=⟨_,rfl⟩
  rw [<-hdq,<-hqq] at hdg;have Hdb:=hid (show 0<=d/\d<V/\q*V+d=D from ⟨by rw [hdq];exact Int.emod_nonneg _ (by have:=HVp.out.1;omega),by rw [hdq];exact Int.emod_lt_of_pos _ HVp.out.1,by rw [hdq,hqq];exact Kpk⟩);clear hvlen hSv hvv hcv hE2 hF1 hX1 hVq hD hdq hqq Hval HM;go_wp2_with fail;refine (hdg.out _ (Ext.refl Z2)).mono ?_;rintro e Z3 ⟨rfl,hE3⟩;clear hdg;have E3:=E2.trans hE3;replace a0:=hE3.cell a0;replace a1:=hE3.cell a1;replace a2:=hE3.cell a2;replace v0:=hE3.cell v0;have hF3:=hid (hF2.out.ext hE3);have hX3:=hid (hX2.out.ext hE3);have hV3:=hid (hV2.out.ext hE3);have hrd:=hid (Kj6 hF3.out hX3.out Hmx.out (HL.out.ext E3));clear hF2 hX2 hV2 hE3;go_wp2_with fail;refine hrd.out.mono ?_;rintro e Z4 ⟨yv,c1,rfl,hC1,hy,hE4⟩;have HC1:=hid hC1;have Hy4:=hid hy.row;have E4:=E3.trans hE4;replace a0:=hE4.cell a0;replace a1:=hE4.cell a1;replace a2:=hE4.cell a2;replace v0:=hE4.cell v0;have hF4:=hid (hF3.out.ext hE4);have hX4:=hid (hX3.out.ext hE4);have hV4:=hid (hV3.out.ext hE4);have hhs:=hid (Kpb hF4.out hX4.out Hmx.out (HL.out.ext E4));clear hF3 hX3 hV3 hE4 hrd hC1 hy;go_wp2_with fail;refine hhs.out.mono ?_;rintro e Z5 ⟨bv,c2,rfl,hC2,hbv,hE5⟩;have HC2:=hid hC2;have Hbv:=hid hbv;have Hy5:=hid (Hy4.out.ext hE5);have E5:=E4.trans hE5;replace a0:=hE5.cell a0;replace a1:=hE5.cell a1;replace a2:=hE5.cell a2;replace v0:=hE5.cell v0;have hF5:=hid (hF4.out.ext hE5);have hX5:=hid (hX4.out.ext hE5);have hV5:=hid (hV4.out.ext hE5)
  have hcd:=hid (Kc5 hF5.out hX5.out Hmx.out (HL.out.ext E5));clear hF4 hX4 hV4 hE5 hhs hC2 hbv Hy4;go_wp2_with fail;refine hcd.out.mono ?_;rintro e Z6 ⟨lv,lc,rfl,hlc,hC3,hlv,hE6⟩;obtain ⟨gc,cc,rfl⟩:=KaP hlv (by omega);rw [hlc];have HC3:=hid hC3;have Hlc:=hid hlc;have Hc6:=hid (show SzV Z5.heap.size Z6 (slv gc n cc) lc by have h:=hlv;rw [hlc] at h;exact h);have Hy6:=hid (Hy5.out.ext hE6);have E6:=E5.trans hE6;replace a0:=hE6.cell a0;replace a1:=hE6.cell a1;replace a2:=hE6.cell a2;replace v0:=hE6.cell v0;have hF6:=hid (hF5.out.ext hE6);have hX6:=hid (hX5.out.ext hE6);have hV6:=hid (hV5.out.ext hE6);have hco:=hid (Ka2 (sp:=sp) (cp:=cp) (vo := .slice so no co) HB3.out hF6.out.hM hX6.out Hxl.out Hx6.out HC3.out (HL.out.ext E6));rw [KnO hlc] at hco;have HcN:=hid (λj (hj:j<n)=>KoR HB3.out Hxl.out Hx6.out HC3.out hj);clear hF5 hX5 hV5 hE6 hcd hC3 hlv Hy5 hlc;go_wp2_with fail;refine hco.out.mono ?_;rintro e Z7 ⟨wv,rfl,hwv,hE7⟩;obtain ⟨gw,cw,rfl⟩:=KaP hwv (by rw [Hlc.out];exact hn0);rw [Hlc.out];have Hw7:=hid (show SzV Z6.heap.size Z7 (slv gw n cw) lc by have h:=hwv;rw [Hlc.out] at h;exact h);have Hc7:=hid (Hc6.out.ext hE7);have Hy7:=hid (Hy6.out.ext hE7);have E7:=E6.trans hE7;replace a0:=hE7.cell a0;replace a1:=hE7.cell a1;replace a2:=hE7.cell a2;replace v0:=hE7.cell v0;have hF7:=hid (hF6.out.ext hE7);have hX7:=hid (hX6.out.ext hE7);have hV7:=hid (hV6.out.ext hE7);have HcO:=hid (Kca Hc7.out Hlc.out);have HwO:=hid (Kca Hw7.out Hlc.out)
  have hcc:n<=cc:=by have:=HcO.out.cap;rw [Hlc.out] at this;exact this
  have hcw:n<=cw:=by have:=HwO.out.cap;rw [Hlc.out] at this;exact this
  clear hF6 hX6 hV6 hE7 hco hwv Hy6 Hc6;go_wp2_with fail
  go_loopw [20] (λiv wr => ∃k:Nat,k<=n/\iv = .int .i64 k/\Ext Z7 wr) (λiv _=>n-(intOf iv).toNat)
  case atStart=>exact ⟨0,by omega,by go_num,Ext.refl _⟩
  case round =>
   obtain ⟨k,hk,rfl,hE⟩:=hrel;generalize wr=U at *
   by_cases hkn:k<n
   ·have hki:(k:Int)<(n:Int):=by omega
    have hkl:k<lc.length:=by rw [Hlc.out];exact hkn
    obtain ⟨x0,x1⟩:=HcO.out.cells (i:=k) hkl;obtain ⟨y0,y1⟩:=HwO.out.cells (i:=k) hkl;obtain ⟨r,hr⟩ : ∃r,r=lc[k]:=⟨_,rfl⟩
    rw [<-hr] at x0 x1 y0 y1;have x0:=hE.cell x0;have x1:=hE.cell x1;have y0:=hE.cell y0;have y1:=hE.cell y1;have x0':=cell_regrown x0;have x1':=cell_regrown x1;have y0':=cell_regrown y0;have y1':=cell_regrown y1;clear hr hkl;go_wp2_with fail
    go_quiet (fail)
    go_wp2_with fail;go_roundw
    case rel=>exact ⟨k+1,by omega,by go_num,hE.drewN _⟩
    case measure=>simp [intOf]<;>omega
   ·obtain rfl:n=k:=by omega
    have E8:=E7.trans hE;replace a0:=hE.cell a0;replace a1:=hE.cell a1;replace a2:=hE.cell a2;replace v0:=hE.cell v0;have hF8:=hid (hF7.out.ext hE);have hX8:=hid (hX7.out.ext hE);have hV8:=hid (hV7.out.ext hE);have Hy8:=hid (Hy7.out.ext hE);have Hw8:=hid (Hw7.out.ext hE);have hre:=hid (Kht (sp:=sp) (cp:=cp) HB3.out hF8.out.hM hF8.out.hO hF8.out.hOl (λx hx=>(hF8.out.hOn x hx).mono (by decide)) hF8.out.hOb hX8.out Hxl.out Hx6.out HC3.out (HL.out.ext E8));clear hF7 hX7 hV7 Hy7 Hc7 Hw7 HcO HwO hE;go_wp2_with fail;refine hre.out.mono ?_;rintro e R ⟨zv,rfl,hz,hE9⟩;have E9:=E8.trans hE9;replace a0:=hE9.cell a0;replace a1:=hE9.cell a1;replace a2:=hE9.cell a2;replace v0:=hE9.cell v0;have HF:=hid (hF8.out.ext hE9);have HX:=hid (hX8.out.ext hE9);have HV:=hid (hV8.out.ext hE9);have HY:=hid (Hy8.out.ext hE9);have HZ:=hid hz.row;have HW:=hid (Hw8.out.ext hE9);have hq1:=hid (KkU HB3.out O HC1.out HC3.out)
    have Hdo:=hid (λW' (hW':Ext R W')=>Kkq (HV.out.ext hW') (HX.out.ext hW') (by rw [Hxl.out,Hvlen.out]) (by rw [Hvlen.out];omega) (λz hz=>by
     obtain ⟨i,hi,rfl⟩:=List.getElem_of_mem hz;have:=HB3.out.vb i
     rw [Ka hi] at this;omega) Hx6.out)
    rw [Hvlen.out,<-HD.out] at Hdo;have Hs1:=hid (λW' (hW':Ext R W')=>KaS (HY.out.ext hW') (HZ.out.ext hW') (by simp;omega));rw [decide_eq_true hq1.out] at Hs1;have Hin:=hid (λW' (hW':Ext R W')=>KfW (vp := .slice sp n cp) (vu := .slice (some ⟨gm,0,none⟩) m cu) (vo := .slice so no co) (O:=O) (c:=λj=>lc.getD j 0) hn3 ((HF.out.ext hW').hO) (by have:=HB3.out.len;rw [HF.out.hOl];exact this) (λx hx=>(HF.out.hOn x hx).mono (by decide)) ((HW.out.ext hW').read) Hlc.out (λ_ _=>rfl) (λj hj=>(HcN.out j hj).mono (by omega)) (HL.out.ext (E9.trans hW')));have hsame:=hid (KmU HB3.out O Hxl.out (c:=λj=>lc.getD j 0))
    have hqe:=hid (show (bv=true ↔ ∀j,j<n->qE O (λj=>lc.getD j 0) j=0) by
     rw [Hbv.out];have hu:=HB3.out.uniq HC2.out HC3.out;constructor
     ·intro h j hj;have e1:c2 j=lc.getD j 0:=hu j hj;have e2:(c2 j-Qf O j).floor=0:=h j hj;show (lc.getD j 0-Qf O j).floor=0;rw [<-e1];exact e2
     ·intro h j hj;have e1:c2 j=lc.getD j 0:=hu j hj;have e2:(lc.getD j 0-Qf O j).floor=0:=h j hj;show (c2 j-Qf O j).floor=0
      rw [e1];exact e2)
    have Hs2:=hid (λW' (hW':Ext R W')=>KaS (HX.out.ext hW') (HZ.out.ext hW') (by rw [Hxl.out];omega))
    have hbx:decide (x=rdL n M O x (λj=>lc.getD j 0))=bv:=by
     rw [Bool.eq_iff_iff,decide_eq_true_iff,hsame.out,hqe.out]
    rw [hbx] at Hs2;obtain ⟨qv,hqv⟩ : ∃qv,qv=q*V:=⟨_,rfl⟩
    have hdb:=Hdb.out;rw [<-hqv] at hdb
    have hDb:D.natAbs<=3*(128*1000):=by
     rw [HD.out];exact Nat.le_trans (KfP (x:=vl) (y:=x) (A:=128) (B:=1000) HB3.out.vb (Kjt (λz hz=>by have:=Hxb.out z hz;omega)) n) (Nat.mul_le_mul_right _ hn3)
    have hVb:=HVp.out;have g1:IntKind.i64.wrap (q*V)=qv:=by rw [<-hqv];exact IntWalk.i64_in _ (by omega)
    have g2:IntKind.i64.wrap (qv+d)=D:=by rw [hdb.2.2];exact IntWalk.i64_in _ (by omega)
    have g3:decide (0<=d)=true:=decide_eq_true hdb.1;have g4:decide (d<V)=true:=decide_eq_true hdb.2.1;have hn0i:(0:Int)<(n:Int):=by omega
    clear hqv hdb hDb hVb hbx hz hE9 hF8 hX8 hV8 Hy8 Hw8 hre;go_wp2_with fail;have d0:Ext R R.drew:=(Ext.refl R).drew;refine Kf (S:=λW=>Ext R W) 57 (by kernel_rfl) (by simp) ?_;intro inv;generalize R.drew=Rd at *;refine tkS (i:=0) (v := .int .i64 0) rfl d0 inv ?_;intro inv;go_simp;refine tkS (i:=1) (v := .bool true) rfl d0 inv ?_;intro inv;go_simp;refine tkS (i:=2) (v := .bool true) rfl d0 inv ?_;intro inv;go_simp;refine tkS (i:=3) (v := .int .i64 q) rfl d0 inv ?_;intro inv;go_simp;refine tkS (i:=4) (v := .slice (some ⟨gv,ov,none⟩) n cv) rfl d0 inv ?_;intro inv;go_simp;refine tkS (i:=5) (v := .pointer (some ⟨gv,ov,none⟩)) rfl d0 inv ?_;intro inv;go_simp;refine tkA (i:=6) (v := .int .i64 V) rfl (.inl ⟨by rfl,λW hW=>by have y0:=hW.cell v0;go_simp⟩) d0 inv ?_;intro inv;go_simp;refine tkS (i:=7) (v := .int .i64 qv) rfl d0 inv ?_;intro inv;go_simp;refine tkS (i:=8) (v := .int .i64 d) rfl d0 inv ?_;intro inv;go_simp;refine tkS (i:=9) (v := .int .i64 D) rfl d0 inv ?_;intro inv;go_simp;refine tkS (i:=10) (v := .slice (some ⟨gv,ov,none⟩) n cv) rfl d0 inv ?_;intro inv;go_simp;refine tkS (i:=11) (v := .slice sx n cx) rfl d0 inv ?_;intro inv;go_simp;refine Ke (i:=12) rfl (by kernel_rfl) inv (λinv K0 hK0 => ?_);go_simp;refine (Hdo.out _ d0).mono ?_;rintro e W1 ⟨rfl,hGc⟩;have d1:=d0.trans hGc;refine hK0 _ _ d1 ?_;clear hK0 hGc d0;refine tkS (i:=13) (v := .bool true) rfl d1 inv ?_;intro inv;go_simp;refine tkS (i:=14) (v := .bool true) rfl d1 inv ?_
    intro inv;go_simp;refine tkS (i:=15) (v := .bool true) rfl d1 inv ?_;intro inv;go_simp;refine tkS (i:=16) (v := .int .i64 d) rfl d1 inv ?_;intro inv;go_simp;refine tkS (i:=17) (v := .bool true) rfl d1 inv ?_;intro inv;go_simp;refine tkS (i:=18) (v := .bool true) rfl d1 inv ?_;intro inv;go_simp;refine tkS (i:=19) (v := .bool true) rfl d1 inv ?_;intro inv;go_simp;refine tkS (i:=20) (v := .int .i64 d) rfl d1 inv ?_;intro inv;go_simp;refine tkS (i:=21) (v := .slice (some ⟨gv,ov,none⟩) n cv) rfl d1 inv ?_;intro inv;go_simp;refine tkS (i:=22) (v := .pointer (some ⟨gv,ov,none⟩)) rfl d1 inv ?_;intro inv;go_simp;refine tkA (i:=23) (v := .int .i64 V) rfl (.inl ⟨by rfl,λW hW=>by have y0:=hW.cell v0;go_simp⟩) d1 inv ?_;intro inv;go_simp;refine tkS (i:=24) (v := .bool true) rfl d1 inv ?_;intro inv;go_simp;refine tkS (i:=25) (v := .bool true) rfl d1 inv ?_;intro inv;go_simp;refine tkS (i:=26) (v := .bool true) rfl d1 inv ?_;intro inv;go_simp;refine tkS (i:=27) (v := .int .i64 0) rfl d1 inv ?_;intro inv;go_simp;refine tkS (i:=28) (v := .bool true) rfl d1 inv ?_;intro inv;go_simp;refine tkS (i:=29) (v := .bool true) rfl d1 inv ?_;intro inv;go_simp;refine tkS (i:=30) (v := .bool true) rfl d1 inv ?_;intro inv;go_simp;refine tkS (i:=31) (v:=yv) rfl d1 inv ?_;intro inv;go_simp;refine tkS (i:=32) (v:=zv) rfl d1 inv ?_;intro inv;go_simp;refine Ke (i:=33) rfl (by kernel_rfl) inv (λinv K0 hK0 => ?_);go_simp;refine (Hs1.out _ d1).mono ?_;rintro e W2 ⟨rfl,hGc⟩;have d2:=d1.trans hGc
    refine hK0 _ _ d2 ?_;clear hK0 hGc d1;refine tkS (i:=34) (v := .bool true) rfl d2 inv ?_;intro inv;go_simp;refine tkS (i:=35) (v := .bool true) rfl d2 inv ?_;intro inv;go_simp;refine tkS (i:=36) (v := .int .i64 0) rfl d2 inv ?_;intro inv;go_simp;refine tkS (i:=37) (v := .bool true) rfl d2 inv ?_;intro inv;go_simp;refine tkS (i:=38) (v := .bool true) rfl d2 inv ?_;intro inv;go_simp;refine tkS (i:=39) (v := .bool true) rfl d2 inv ?_;intro inv;go_simp;refine tkS (i:=40) (v := .bool bv) rfl d2 inv ?_;intro inv;go_simp;refine tkA (i:=41) (v:=bkv n cp m cu gm sp (.slice so no co)) rfl (.inl ⟨by rfl,λW hW=>by have y0:=hW.cell a0;have y1:=hW.cell a1;have y2:=hW.cell a2;go_simp⟩) d2 inv ?_;intro inv;go_simp;refine tkS (i:=42) (v:=slv gw n cw) rfl d2 inv ?_;intro inv;go_simp;refine Ke (i:=43) rfl (by kernel_rfl) inv (λinv K0 hK0 => ?_);go_simp;refine (Hin.out _ d2).mono ?_;rintro e W3 ⟨bw,rfl,hbw,hGc⟩;obtain rfl:bv=bw:=by rw [Bool.eq_iff_iff,hqe.out,hbw]
    have d3:=d2.trans hGc;refine hK0 _ _ d3 ?_;clear hK0 hGc d2;refine tkS (i:=44) (v := .bool true) rfl d3 inv ?_;intro inv;go_simp;refine tkS (i:=45) (v := .bool true) rfl d3 inv ?_;intro inv;go_simp;refine tkS (i:=46) (v := .bool true) rfl d3 inv ?_;intro inv;go_simp;refine tkS (i:=47) (v := .bool bv) rfl d3 inv ?_;intro inv;go_simp;refine tkS (i:=48) (v := .slice sx n cx) rfl d3 inv ?_;intro inv;go_simp;refine tkS (i:=49) (v:=zv) rfl d3 inv ?_;intro inv;go_simp;refine Ke (i:=50) rfl (by kernel_rfl) inv (λinv K0 hK0 => ?_);go_simp;refine (Hs2.out _ d3).mono ?_;rintro e W4 ⟨rfl,hGc⟩;have d4:=d3.trans hGc;refine hK0 _ _ d4 ?_;clear hK0 hGc d3;refine tkS (i:=51) (v := .bool true) rfl d4 inv ?_;intro inv;go_simp;refine tkS (i:=52) (v := .bool true) rfl d4 inv ?_;intro inv;go_simp;refine tkS (i:=53) (v := .bool true) rfl d4 inv ?_;intro inv;go_simp;refine tkS (i:=54) (v := .int .i64 0) rfl d4 inv ?_;intro inv;go_simp;refine tkS (i:=55) (v := .bool true) rfl d4 inv ?_;intro inv;go_simp;refine tkS (i:=56) (v := .bool true) rfl d4 inv ?_;intro inv;go_simp;refine Kg (by kernel_rfl) ?_;have hfin:=E9.trans d4;clear Hdo Hs1 Hs2 Hin;go_wp2_with fail;go_ret;exact ⟨rfl,hfin⟩
end
section
open Go.ChangeShapes Go.WideShapes Go.ChangeAt Go.WideMaps Go.WideElems Go.RowKit Go.Deep
theorem Kpz:ownKnob Tryz.prog.godebug=none:=by kernel_rfl
theorem Kdu:laidOutB Tryz.prog=true:=by kernel_rfl
theorem fr_pow : Tryz.prog.globalNamed "internal/strconv.uint64pow10" = some 2 := by kernel_rfl
theorem Kn2:(Tryz.prog.globals[2]?).map (·.type)=some 353:=by kernel_rfl
theorem fr_rng : Tryz.prog.globalNamed "strconv.ErrRange" = some 1 := by kernel_rfl
theorem Kn3:(Tryz.prog.globals[1]?).map (·.type)=some 182:=by kernel_rfl
theorem Kpw:Tryz.prog.cellsOf 353=20:=by kernel_rfl
theorem Kqp:Tryz.prog.cellsOf 213=1:=by kernel_rfl
theorem Kqn:Tryz.prog.cellsOf 350=1:=by kernel_rfl
theorem Kqo:Tryz.prog.cellsOf 9=1:=by kernel_rfl
theorem fr_star : "*" ++ "errors.errorString" = "*errors.errorString" := by decide
theorem fr_ptr (u : TypeId) (h : Tryz.prog.typeName? 3 u = some "*errors.errorString") : u = 348 :=
 typeName_ptr_named (nm := "errors.errorString") (by rw [fr_star]; kernel_rfl) (by kernel_rfl) (by decide) u (by rw [fr_star]; exact h)
abbrev fr_list : List (String × DataW Unit) := [("math/bits.deBruijn32tab", Rows.laid_math_bits_deBruijn32tab), ("math/bits.deBruijn64tab", Rows.laid_math_bits_deBruijn64tab), ("internal/strconv.uint64pow10", Rows.laid_internal_strconv_uint64pow10), ("strconv.ErrRange", Rows.laid_strconv_ErrRange), ("strconv.ErrSyntax", Rows.laid_strconv_ErrSyntax)]
theorem KpA:(Rows.laid_internal_strconv_uint64pow10:DataW Unit)=Lib.tabData .u64 Lib.pow10Tab:=by kernel_rfl
theorem Kof {W:World} (h:laidMetH Tryz.prog fr_list W):Laid W:=by
 rw [MakeChecks.laidMetH_plain _ _ _ (by kernel_rfl)] at h;have h3:=h.tail.tail;rw [KpA] at h3;refine ⟨Lib.tabIs_of_head fr_pow Kn2 Tryz.underlying353 Tryz.underlying213 Kqp Kpw h3,?_⟩;obtain ⟨a,s,hv,_⟩:=laid_sentinel h3.tail fr_rng Kn3 Tryz.underlying182 fr_ptr Tryz.underlying348 Tryz.underlying350 rfl rfl Tryz.underlying9 Kqn Kqo;exact ⟨_,_,hv⟩
theorem KlX (os:Os) (args:Array Value):laidMetH Tryz.prog fr_list ((World.doorLaid Tryz.prog 400 os).forCall (λ_ _=>0) ⟨#[],args,[]⟩).memory :=
 laidMetH_of_parts3 (fuel:=8) (laidMet_of_run' 8 (by kernel_rfl) (by kernel_rfl)) (by kernel_rfl) (by kernel_rfl)
theorem Kqm:Tryz.prog.cellsOf 51=1:=by kernel_rfl
theorem KhI {l:List Value} {k:Nat} {x:Value} (h:(l.drop k).take 1=[x]):l[k]? = some x:=by
 have:=congrArg (·[0]?) h;simpa [List.getElem?_take] using this
theorem KkB {n:Int} (h:(Lit.int .i8 n).wf=true) : -128<=n/\n<=127:=by
 simp only [Lit.wf,Bool.and_eq_true,decide_eq_true_eq] at h;have e1:IntKind.i8.min = -128:=by rfl
 have e2:IntKind.i8.max=127:=by rfl
 omega
theorem Kli {n:Int} (h:(Lit.int .u8 n).wf=true):0<=n/\n<=255:=by
 simp only [Lit.wf,Bool.and_eq_true,decide_eq_true_eq] at h;have e1:IntKind.u8.min=0:=by rfl
 have e2:IntKind.u8.max=255:=by rfl
 omega
theorem Kdw {H:Type} {enc:TypeId×Value->H} {W:World} {base:Nat} {sp:Nat->Bool} {held:Bool} {fuel n:Nat} {t:TypeId} {l:List Value} {x:DataW H×List MemPlace} (ht:Tryz.prog.underlying t=some (.array n 51))
  (h:DataW.trod enc Tryz.prog W base sp held fuel t l=some x) : ∀j,j<n -> ∃z:Int,l[j]? = some (.int .i8 z) /\ -128<=z/\z<=127:=by
 obtain ⟨xs,m,_,_,_,hxl,hx⟩:=DataW.trod_array ht h;intro j hj;have h1:=hx j hj;rw [Kqm,Nat.mul_one,List.getElem?_eq_getElem (by omega)] at h1;obtain ⟨z,hz,_,hw⟩:=DataW.trod_int Tryz.underlying51 h1;exact ⟨z,KhI hz,KkB hw⟩
theorem Kn1:Tryz.prog.cellsOf 56=9:=by kernel_rfl
theorem Kpx:Tryz.prog.cellsOf 52=3:=by kernel_rfl
theorem Klj {H:Type} {enc:TypeId×Value->H} {W:World} {base:Nat} {sp:Nat->Bool} {held:Bool} {fuel:Nat} {l:List Value} {x:DataW H×List MemPlace}
  (h:DataW.trod enc Tryz.prog W base sp held fuel 53 l=some x) : ∀i,i<2 -> ∀j,j<3 -> ∃z:Int,l[i*3+j]? = some (.int .i8 z) /\ -128<=z/\z<=127:=by
 obtain ⟨xs,m,_,_,_,hxl,hx⟩:=DataW.trod_array Tryz.underlying53 h;intro i hi j hj;have h1:=hx i hi;rw [Kpx,List.getElem?_eq_getElem (by omega)] at h1;obtain ⟨z,hz,hb⟩:=Kdw Tryz.underlying52 h1 j hj;rw [List.getElem?_take,if_pos (by omega),List.getElem?_drop] at hz;exact ⟨z,hz,hb⟩
def iv8 (v:Option Value):Int:=match v with
 | some (.int _ z)=>if -128<=z/\z<=127 then z else 0
 | _=>0
theorem KoT (v:Option Value) : -128<=iv8 v/\iv8 v<=127:=by
 unfold iv8;split
 ·split<;>omega
 ·omega
theorem Kms {v:Option Value} {z:Int} (h:v=some (.int .i8 z)) (hb : -128<=z/\z<=127):v=some (.int .i8 (iv8 v)):=by
 subst h;have:iv8 (some (.int .i8 z))=z:=by unfold iv8;simp [hb]
 rw [this]
theorem Kqv {l:List Value} {a b c d e f g h i:Value} (hl:l.length=9) (h0:l[0]? = some a) (h1:l[1]? = some b) (h2:l[2]? = some c) (h3:l[3]? = some d) (h4:l[4]? = some e) (h5:l[5]? = some f) (h6:l[6]? = some g) (h7:l[7]? = some h) (h8:l[8]? = some i):l=[a,b,c,d,e,f,g,h,i]:=by
 refine List.ext_getElem? λn => ?_
 match n with
 | 0=>exact h0
 | 1=>exact h1
 | 2=>exact h2
 | 3=>exact h3
 | 4=>exact h4
 | 5=>exact h5
 | 6=>exact h6
 | 7=>exact h7
 | 8=>exact h8
 | n+9=>rw [List.getElem?_eq_none (by omega),List.getElem?_eq_none (by simp)]
theorem Khm {H:Type} {enc:TypeId×Value->H} {W:World} {base:Nat} {sp:Nat->Bool} {held:Bool} {fuel:Nat} {cs:Array Value} {x:DataW H×List MemPlace} (hs:cs.size=9)
  (h:DataW.trod enc Tryz.prog W base sp held fuel 56 cs.toList=some x) : ∃(p:Int) (u:Nat->Nat->Int) (o:Nat->Int),Value.agg cs=plv p u o/\(0<=p/\p<=255)/\(∀i k,-128<=u i k/\u i k<=127) /\ ∀i,-128<=o i/\o i<=127:=by
 obtain ⟨xs,n,_,_,_,hxl,hx⟩:=DataW.trod_struct Tryz.underlying56 h;have hx3:xs.length=3:=hxl;have h0:=hx 0 _ rfl;have h1:=hx 1 _ rfl;have h2:=hx 2 _ rfl;rw [List.getElem?_eq_getElem (by omega)] at h0 h1 h2;have h0':DataW.trod enc Tryz.prog W base sp held n 5 ((cs.toList.drop 0).take 1)=some xs[0]:=h0;have h1':DataW.trod enc Tryz.prog W base sp held n 53 ((cs.toList.drop 1).take 6)=some xs[1]:=h1;have h2':DataW.trod enc Tryz.prog W base sp held n 54 ((cs.toList.drop 7).take 2)=some xs[2]:=h2;obtain ⟨a,ha,_,wa⟩:=DataW.trod_int Tryz.underlying5 h0';have hu:=Klj h1';have ho:=Kdw Tryz.underlying54 h2';have hl:cs.toList.length=9:=by simpa using hs
 have ku : ∀i k,i<2->k<3->cs.toList[1+(i*3+k)]? = some (.int .i8 (iv8 cs.toList[1+(i*3+k)]?)):=λi k hi hk=>by
  obtain ⟨z,hz,hb⟩:=hu i hi k hk;rw [List.getElem?_take,if_pos (by omega),List.getElem?_drop] at hz;exact Kms hz hb
 have ko : ∀i,i<2->cs.toList[7+i]? = some (.int .i8 (iv8 cs.toList[7+i]?)):=λi hi=>by
  obtain ⟨z,hz,hb⟩:=ho i hi;rw [List.getElem?_take,if_pos (by omega),List.getElem?_drop] at hz;exact Kms hz hb
 refine ⟨a,λi k=>iv8 cs.toList[1+(i*3+k)]?,λi=>iv8 cs.toList[7+i]?,?_,Kli wa,λi k=>KoT _,λi=>KoT _⟩;have:=Kqv hl (KhI ha) (ku 0 0 (by omega) (by omega)) (ku 0 1 (by omega) (by omega)) (ku 0 2 (by omega) (by omega)) (ku 1 0 (by omega) (by omega)) (ku 1 1 (by omega) (by omega)) (ku 1 2 (by omega) (by omega)) (ko 0 (by omega)) (ko 1 (by omega));have h3:=congrArg List.toArray this;rw [Array.toArray_toList] at h3;exact congrArg Value.agg h3
theorem Kir {P:Program} {w:World} {r:Reach} {base:Nat} {t e:TypeId} {n:Nat} {v:Value} (ht:P.underlying t=some (.array n e)) (h:Value.okWide P w r base t v) : ∃cs,v = .agg cs/\cs.size=P.cellsOf t:=by
 simp only [Value.okWide,ht] at h;obtain ⟨cs,h1,h2,_⟩:=h;exact ⟨cs,h1,h2⟩
theorem Kpy:Tryz.prog.cellsOf 57=4:=by kernel_rfl
theorem Kj9 {H:Type} {enc:TypeId×Value->H} {W:World} {base:Nat} {sp:Nat->Bool} {held:Bool} {fuel:Nat} {cs:Array Value} {x:DataW H×List MemPlace} (hs:cs.size=4)
  (h:DataW.trod enc Tryz.prog W base sp held fuel 57 cs.toList=some x) : ∃z0 z1 z2 z3:Int,cs = #[.int .i8 z0,.int .i8 z1,.int .i8 z2,.int .i8 z3]/\(-128<=z0/\z0<=127)/\(-128<=z1/\z1<=127)/\(-128<=z2/\z2<=127)/\(-128<=z3/\z3<=127):=by
 have hE:=Kdw Tryz.underlying57 h;obtain ⟨z0,k0,b0⟩:=hE 0 (by omega);obtain ⟨z1,k1,b1⟩:=hE 1 (by omega);obtain ⟨z2,k2,b2⟩:=hE 2 (by omega);obtain ⟨z3,k3,b3⟩:=hE 3 (by omega);refine ⟨z0,z1,z2,z3,?_,b0,b1,b2,b3⟩;obtain ⟨l⟩:=cs
 match l,hs with
 | [c0,c1,c2,c3],_ =>
  simp at k0 k1 k2 k3;subst k0 k1 k2 k3;rfl
theorem fokkerReduces_lifted (os:Os) (started:os.Started) (H:Type) (enc:TypeId×Value->H) :
  ReturnsInHanded {} Tryz.checked os 7 .any (λw args=>(Rows.fokkerReducesSpec.pre enc Tryz.prog Tryz.f7 [] false w args/\laidMetH Tryz.prog fr_list w)/\sizedMet enc Tryz.prog Tryz.f7 (OpenSpec.ofChange Rows.fokkerReducesSpec) false w args)
   (Rows.fokkerReducesSpec.post enc Tryz.prog Tryz.f7 false true false false):=by
 refine returnsInHanded_of_change_and (C:=Tryz.checked) (X:=λw _=>laidMetH Tryz.prog fr_list w) (λ_ _ _ hh h=>h.of_heap hh) Kpz started (by kernel_rfl) Tryz.func7
  (ChangeSpec.witness_shaped (enc:=enc) (C:=Tryz.checked) (os:=os) (X:=λw _=>laidMetH Tryz.prog fr_list w) false (World.doorLaid Tryz.prog 400 os) #[.agg #[.int .u8 0,.int .i8 0,.int .i8 0,.int .i8 0,.int .i8 0,.int .i8 0,.int .i8 0,.int .i8 0,.int .i8 0],.agg #[.int .i8 0,.int .i8 0,.int .i8 0,.int .i8 0]] 8 rfl (World.shaped_of_RefB (by kernel_rfl) (by kernel_rfl)) (by kernel_rfl) (by kernel_rfl) (by kernel_rfl) (KlX os _)) ?_
 intro W base args ds gs before hval0 hW _ _ hL _;have hval : ∀(j:Nat) t v,Tryz.f7.params[j]? = some t->args[j]? = some v->Value.okWide Tryz.prog W .any base t v:=hval0;have hW':=hW;obtain ⟨p,q,hA0,hV,rfl,hfz,hnd⟩:=hW;have hA:DataW.TrodAll enc Tryz.prog W 0 (λ_=>true) true Tryz.f7.params.toList args.toList ds p:=hA0;rw [Tryz.params7] at hA hval;obtain ⟨v0,v1,d0,d1,p0,p1,rfl,rfl,rfl,h0,h1⟩:=trodAll_two hA;obtain ⟨rfl,rfl⟩:=trodVars_none hV;obtain ⟨cs0,rfl,hs0⟩:=okWide_struct Tryz.underlying56 (hval 0 56 v0 rfl rfl);rw [Kn1] at hs0;obtain ⟨cs1,rfl,hs1⟩:=Kir Tryz.underlying57 (hval 1 57 v1 rfl rfl);rw [Kpy] at hs1;have h0k:=h0;have h1k:=h1;obtain ⟨fuel0,hf0⟩:=h0;obtain ⟨pp0,pu0,po0,hPv0,hp0,hu0,ho0⟩:=Khm hs0 hf0;rw [hPv0] at h0k hW' ⊢;obtain ⟨fuel1,hf1⟩:=h1;obtain ⟨z1_0,z1_1,z1_2,z1_3,rfl,b1_0,b1_1,b1_2,b1_3⟩:=Kj9 hs1 hf1;clear hA0 hval0 hf0 hf1;simp only [List.append_nil] at hW';have hlt : ∀z∈p0++p1,z.block<W.heap.size:=λz hz=>by simpa using hW'.lt z hz
 refine (Kku (l:=fn4 z1_0 z1_1 z1_2 z1_3) hp0 hu0 ho0 (Kql b1_0 b1_1 b1_2 b1_3) (Kof hL)).mono ?_;rintro e W' ⟨rfl,hE⟩;have e1:Rows.fokkerReducesSpec.fn H ([d0,d1]++[]) = { results:=[.lit (.bool true)],args:=[d0,d1] }:=rfl;refine ⟨_,rfl,_,_,_,[],p0++p1,[],hW',?_,?_,?_,hE.frame _,λh=>by cases h⟩
 ·rw [e1];exact trodAll_mk1 (shut_bool Tryz.underlying4 true)
 ·rw [e1];exact trodAll_mk2 (Below.trod Kdu (by kernel_rfl) (of_decide_eq_true (by kernel_rfl)) h0k hE λx hx=>hlt x (by simp [hx])) (Below.trod Kdu (by kernel_rfl) (of_decide_eq_true (by kernel_rfl)) h1k hE λx hx=>hlt x (by simp [hx]))
 ·rw [e1];rfl
theorem fokkerReduces_holds:Rows.FokkerReducesSaid :=
 OpenClaim.holds_of_wide 7 Tryz.f7 rfl rfl rfl rfl rfl rfl rfl ⟨rfl,rfl,rfl,rfl,rfl⟩ rfl rfl rfl rfl rfl (by as_aux_lemma=>kernel_rfl) Tryz.func7 (by
   unfold joinedFacts;simp only [Bool.and_eq_true]
   repeat' apply And.intro
   all_goals (as_aux_lemma=>kernel_rfl))
  (of_decide_eq_true (by kernel_rfl)) (by unfold Func.isWrapper;first | (rw [if_pos (by decide +kernel)];kernel_rfl) | (rw [if_neg (by decide +kernel)];exact ⟨rfl,rfl⟩))
  (λos started H enc _=>fokkerReduces_lifted os started H enc)
theorem fokkerReduces_card:Rows.FokkerReducesCardSaid :=
 Claim7.holds_tied_plain_at .later [] [.data,.data,.data,.sentinel,.sentinel] true Rows.fokkerReducesCard.stood.harness true
  fokkerReduces_holds (λ_ h=>by cases h) (by as_aux_lemma=>kernel_rfl) (λ_ h=>by cases h) fokkerReduces_row_tie rfl ⟨rfl,rfl⟩ (by as_aux_lemma=>kernel_rfl) rfl
  (λf fn hf hfn=>by
   obtain rfl : f = 7 := Option.some.inj ((show Tryz.prog.funcNamed "schisma/schismalaw36.FokkerReduces" = some 7 by as_aux_lemma => kernel_rfl).symm.trans hf) |>.symm
   obtain rfl:fn=Tryz.f7:=(Option.some.inj (Tryz.func7.symm.trans hfn)).symm
   exact ⟨by as_aux_lemma=>kernel_rfl,λj t ht=>by
    rw [Tryz.params7] at ht;have hm:t∈[56,57]:=by simpa using Array.mem_of_getElem? ht
    have hall:([56,57].all λu => !Tryz.prog.wantsStandIn u)=true:=by as_aux_lemma=>kernel_rfl
    exact (show Tryz.prog.wantsStandIn t=false by simpa using List.all_eq_true.1 hall t hm)⟩)
  (by as_aux_lemma=>kernel_rfl)
#print axioms fokkerReduces_card
end
end Go.Proofs.YtmhfccigejcphaaGreatDoor
