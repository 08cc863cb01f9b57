/- Part 48 of the proof of the claim: contracts of the functions that it reaches, and plain laws; no condition. -/
import Derived.Test.YtdmaofimeknkbaaGreatDoorQ42
import Derived.Test.YtdmaofimeknkbaaGreatDoorQ02
import Derived.Test.YtdmaofimeknkbaaGreatDoorQ47
set_option maxRecDepth 100000
set_option maxHeartbeats 20000000
namespace Go.Proofs.YtdmaofimeknkbaaGreatDoor
section
open Go.RowKit Go.Sort
open Lib (hid)
theorem KjS {u:Nat} (h:u<1000000000000000000):(Lib.itoa (u:Int)).length<=18:=by
 have h1:=KP (u:=u) (k:=18) h (by omega);have h2:=Zb (u:Int);unfold nd at h2;rw [Int.natAbs_natCast,if_neg (by omega)] at h2;omega
theorem Kiz {a b:Int} (ha:a.natAbs<1000000000000000000) (hb0:0<b) (hb:b<1000000000000000000) {w:World} :
  Calls Tryz.prog 44 #[.agg #[I a,I b]] w λe w'=>e = .returned (.tuple #[.int .i64 a,.int .i64 b,.bool true])/\Ext w w':=by
 have hA:=hid (λX=>Kag (z:=a) (by have:=KP (u:=a.natAbs) (k:=18) ha (by omega);show Lib.nDigits _<=LIM;unfold LIM;omega) X);have na:nd a<=LIM:=by have:=KP (u:=a.natAbs) (k:=18) ha (by omega);show Lib.nDigits _<=LIM;unfold LIM;omega
 have nb:nd b<=LIM:=by have:=KP (u:=b.natAbs) (k:=18) (by omega) (by omega);show Lib.nDigits _<=LIM;unfold LIM;omega
 have h1:=hid (λX=>Xy (z:=a) (by omega) (by omega) na X);have h2:=hid (λX=>Xy (z:=b) (by omega) (by omega) nb X);have t1 : ¬(18:Int)<((Lib.itoa (a.natAbs:Int)).length:Int):=by have:=KjS ha;omega
 have t2 : ¬(18:Int)<((Lib.itoa b).length:Int):=by
  obtain ⟨v,rfl⟩:=Int.eq_ofNat_of_zero_le (show 0<=b by omega);have:=KjS (u:=v) (by omega);omega
 obtain ⟨u,hu⟩ : ∃u:Int,u=(a.natAbs:Int):=⟨_,rfl⟩
 rw [<-hu] at hA t1;have hX:Ext w (w.alloc (.cells #[I a,I b] 47)):=(Ext.refl w).alloc _;have HO:=Qq w 47 (I a) (I b);have c0:(w.alloc (.cells #[I a,I b] 47)).cell? ⟨w.heap.size,0,none⟩=some (I a):=HO.cell (j:=0) (by simp);have c1:(w.alloc (.cells #[I a,I b] 47)).cell? ⟨w.heap.size,1,none⟩=some (I b):=HO.cell (j:=1) (by simp);clear HO hu ha hb hb0 na nb
 go_enter Tryz.func44,Tryz.ntmps44
 go_wp2_with fail;refine (hA.out _).mono ?_;rintro e w1 ⟨rfl,hE1⟩;have c0:=hE1.cell c0;have c1:=hE1.cell c1;go_wp2_with fail;refine (h1.out _).mono ?_;rintro e w2 ⟨rfl,hE2⟩;have c1:=hE2.cell c1;go_wp2_with fail;refine (h2.out _).mono ?_;rintro e w3 ⟨rfl,hE3⟩;go_wp2_with fail
 go_ret3
 exact ⟨rfl,((hX.trans hE1).trans hE2).trans hE3⟩
theorem KhQ {w:World} {n cp cx:Nat} {sp sx:Option Addr} {vu vo:Value} {M:Mx} {O:List Rat} {vl x:List Int} {c:Nat->Rat} (hB:BkM n M vl) (hM:KJ w vu M) (hO:SzR w vo O) (hOl:O.length=M.length) (hOn : ∀x∈O,NdQ 1000 x) (hOb : ∀j,-12<=QQ O j/\QQ O j<=12) (hx:KT w (.slice sx n cx) x) (hxl:x.length=n) (hxb : ∀z∈x,z.natAbs<=1000000) (hc:CoV n M (λi=>((x.getD i 0:Int):Rat)) c) (hL:Laid w) :
  Calls Tryz.prog 24 #[.agg #[.slice sp n cp,vu,vo],.slice sx n cx] w λe w' => ∃v,e = .returned v/\KH w.heap.size w' v (rdL n M O x c)/\Ext w w':=by
 have hn:=hB.hn;have hn0:0<n:=by omega
 have hn3:n<=3:=by omega
 have hMl:=hB.len;have Hco:=hid (λW (hW:Ext w W)=>Kf3 (w:=W) (sp:=sp) (cp:=cp) (vo:=vo) hB (hM.ext hW) (hx.ext hW) hxl hxb hc (hL.ext hW));have Hqb:=hid (λj (hj:j<n)=>Kpw hOb (Kpk hB (Kgb hxb) hc) hj);have Hcn:=hid (λj (hj:j<n)=>KqP hB hxl hxb hc hj);have Hrb:=hid (λk j i (hk:k<n)=>Kqn (k:=k) (j:=j) (i:=i) hB hxb (Kpw hOb (Kpk hB (Kgb hxb) hc)) hk);have Hoff:=hid (Kqd hOn);obtain ⟨m,hm⟩ : ∃m,m=M.length:=⟨_,rfl⟩
 have hmn:m+1=n:=by omega
 obtain ⟨su,cu,rfl⟩ : ∃su cu,vu = .slice su m cu:=by
  obtain ⟨sa,_,_,cap,_,e,_⟩:=hM;exact ⟨sa,cap,by rw [hm];exact e⟩
 obtain ⟨gm,om,hsu,hrow⟩:=hM.elZ hm hB.rect hn0;obtain rfl:=hsu (by omega);obtain ⟨so,go,oo,co,rfl,hcO,hsO,hOc⟩:=hO;have hOm:O.length=m:=by rw [hOl,<-hm]
 have HO:=hid (λi (hi:i<m)=>Krg hOm hOc (i:=i) hi);obtain rfl:=hsO (by omega);rw [hOm] at hcO Hco ⊢;have Hrow:=hid hrow;have HX:=KcV w 34 (.slice sp n cp) (.slice (some ⟨gm,om,none⟩) m cu) (.slice (some ⟨go,oo,none⟩) m co);have hE0:Ext w (w.alloc (.cells #[.slice sp n cp,.slice (some ⟨gm,om,none⟩) m cu,.slice (some ⟨go,oo,none⟩) m co] 34)):=(Ext.refl w).alloc _;obtain ⟨a0,a1,a2⟩:=Xk HX;have hze:=hid (λW (hW:Ext w W)=>Kax (n:=0) (d:=1) (w:=W) (by omega) (by omega) (by omega) (hL.ext hW));rw [Kq9] at hze;obtain ⟨r0,hr0⟩ : ∃r:Rat,r=0:=⟨_,rfl⟩
 rw [<-hr0] at hze;have Hr0:=hid hr0;have HMb:=hid (λi j=>(⟨Rat.intCast_le_intCast.1 (hB.el i j).1,Rat.intCast_le_intCast.1 (hB.el i j).2⟩:(-8:Int)<=eM M i j/\eM M i j<=8));have Hx:=hid hx;have Hxl:=hid hxl;have HL:=hid hL;clear hr0 hM hx hxl hxb hc hL hB hOn hOb HX hrow hOc hsO hOl hOm hm hMl hn
 go_enter Tryz.func24,Tryz.ntmps24
 go_upto_region 1 with fail;generalize w.alloc (.cells #[.slice sp n cp,.slice (some ⟨gm,om,none⟩) m cu,.slice (some ⟨go,oo,none⟩) m co] _)=W0 at *;go_wp2_with fail;refine (Hco.out _ hE0).mono ?_;rintro e W1 ⟨lv,rfl,hlv,hE1⟩;obtain ⟨gl,cl,rfl⟩:=KeC hlv (by rw [Zv];exact hn0);rw [Zv];have HO1:=hid (KeB (by rw [Zv] at hlv;exact hlv) (Zv c n));have hCl:n<=cl:=by have:=HO1.out.cap;rw [Zv] at this;exact this
 have hE1w:=hE0.trans hE1;have a1:=hE1.cell a1;have a2:=hE1.cell a2;have hxR:=hid ((Hx.out.ext hE1w).ext ((Ext.refl W1).alloc (.cells #[] 3)));clear hlv Hco a0;go_upto_region 3 with (at_builtin;refine KlY rfl _ _ 38 Tryz.underlying38 rfl (B:=W1.heap.size) rfl (KfB (Kbj W1 (.cells #[] 3)) (Nat.le_refl _)) rfl hxR.out (by omega) (by simp;omega) (by simp) ?_;intro g cap w5 hO5 hB5 hG5 ho5)
 simp only [List.length_nil,Nat.zero_add,List.nil_append] at hO5 ⊢;have hE5:Ext W1 w5:=Below.trans ((Ext.refl W1).alloc (.cells #[] 3)) hB5;have HY0:=hid (show Kd 3 W1.heap.size w5 g cap (is (rdT x (bsM n M) (qE O c) n 0 0)) by rw [Kfu Hxl.out];exact J7 hO5 Hxl.out);have hcap:n<=cap:=by have:=HY0.out.cap;simpa using this
 clear hO5 hB5 hG5 ho5 hxR;go_wp2_with fail
 go_loopw [7] (λiv wr => ∃i:Nat,i<=n/\iv = .int .i64 i/\Hid (Kd 3 W1.heap.size wr g cap (is (rdT x (bsM n M) (qE O c) n i 0)))/\Ext W1 wr) (λiv _=>n-(intOf iv).toNat)
 case atStart=>exact ⟨0,by omega,by go_num,HY0,hE5⟩
 case round =>
  clear HY0 hE5;obtain ⟨i,hi',rfl,hY,hE⟩:=hrel;generalize wr=V at *
  by_cases hin:i<n
  ·have hii:(i:Int)<(n:Int):=by omega
   have hEV:=hE1w.trans hE;go_wp2_with fail;refine (hze.out _ hEV).mono ?_;rintro e V1 ⟨rfl,hE2⟩;have HP:=hid (Zg V1 (I r0.num) (I r0.den));have eA:Ext V1 (V1.alloc (.cells #[I r0.num,I r0.den] 47)):=(Ext.refl V1).alloc _;have hE3:=(hE.trans hE2).trans eA;have hbV:W1.heap.size<=V1.heap.size:=(hE.trans hE2).size;have hY3:=hid ((hY.out.ext hE2).ext eA);have hgV:g<V1.heap.size:=(Kd.lt (hY.out.ext hE2)).2;clear hE hE2 eA hEV hY;go_upto_region 7 with fail;generalize V1.alloc (.cells #[I r0.num,I r0.den] _)=V2 at *;obtain ⟨b8,hb8⟩ : ∃b8,b8=V1.heap.size:=⟨_,rfl⟩
   rw [<-hb8] at HP hbV hgV ⊢;have HP2:=hid (HP.out.mono hbV);clear hb8 HP;go_upto_if 33 with fail
   go_cut [] from 32 to 39 (λwx=>Hid (Kd 47 W1.heap.size wx b8 2 [I (QQ O i).num,I (QQ O i).den])/\Hid (Kd 3 W1.heap.size wx g cap (is (rdT x (bsM n M) (qE O c) n i 0)))/\Ext W1 wx)
   case first =>
    by_cases hk0:i=0
    ·subst hk0;go_wp2_with fail;go_meet;exact ⟨by have h:=HP2.out;rw [Hr0.out] at h;exact h,hY3,hE3⟩
    ·obtain ⟨k1,hk1⟩ : ∃k1,k1=i-1:=⟨_,rfl⟩
     have hk1m:k1<m:=by omega
     obtain ⟨q3,q4⟩:=HO.out k1 hk1m;obtain ⟨o,ho⟩ : ∃o,o=O.getD k1 0:=⟨_,rfl⟩
     rw [<-ho] at q3 q4;have hd:=hid (show QQ O i=o by rw [Kqc hk0 hk1,ho]);have hE12:=hE1w.trans hE3;have q1:=hE3.cell a2;have q3:=hE12.cell q3;have q4:=hE12.cell q4;have hkp:(0:Int)<(i:Int):=by omega
     have hk1i:(i:Int)-1=(k1:Int):=by omega
     have hk1m':(k1:Int)<(m:Int):=by omega
     have hwr:IntKind.i64.wrap ((i:Int)-1)=(k1:Int):=by rw [hk1i];exact IntWalk.i64_in _ (by omega)
     obtain ⟨p0,p1,f0,f1⟩:=Ky HP2.out;obtain ⟨hP3,hE4,hG3⟩:=ZW HP2.out hE3 (by omega) (I o.num) (I o.den);have HP3:=hid hP3;have HE4:=hid hE4;have HY4:=hid (Kd.other hY3.out hG3 (by omega));clear hP3 hE4 hG3 ho hk1 hk1i;go_wp2_with fail;go_meet;rw [hd.out];exact ⟨HP3,HY4,HE4.out⟩
   case rest =>
    obtain ⟨hP,hY,hEx⟩:=hcut;generalize wc=Z at *;clear HP2 hE3 hY3;obtain ⟨low,hlow⟩ : ∃low,low=QQ O i:=⟨_,rfl⟩
    rw [<-hlow] at hP;have hEZ:=hE1w.trans hEx;obtain ⟨x0,x1⟩:=HO1.out.cells (i:=i) (by rw [Zv];exact hin);obtain ⟨ci,hci⟩ : ∃ci,ci=c i:=⟨_,rfl⟩
    have hce:(coL c n)[i]'(by rw [Zv];exact hin)=ci:=by rw [hci];simp [coL]
    rw [hce] at x0 x1;have x0:=hEx.cell x0;have x1:=hEx.cell x1;have hciN:NdQ 100 ci:=by rw [hci];exact Hcn.out i hin
    have hlowN:NdQ 1000 low:=by rw [hlow];exact Hoff.out i
    have hsb:=(hciN.sub hlowN).mono (show 100+1000+1<=2000 by omega);have HSu:=hid (λW (hW:Ext Z W)=>Jq (hciN.smQ (by omega)) (hlowN.smQ (by omega)) (w:=W) (HL.out.ext (hEZ.trans hW)));have HFl:=hid (λW (hW:Ext Z W)=>Kbu (hsb.smQ (by omega)) (w:=W) (HL.out.ext (hEZ.trans hW)));have Hq:=hid (show (ci-low).floor=qE O c i by rw [hci,hlow];rfl);obtain ⟨q,hq⟩ : ∃q,q=(ci-low).floor:=⟨_,rfl⟩
    rw [<-hq] at HFl Hq;have hqb : -257000013<=q/\q<=257000013:=by rw [Hq.out];exact Hqb.out i hin
    have hqn:nd q<LIM:=by have:=Kv (z:=q) (E:=30) (by omega);unfold LIM;omega
    have h1n:nd 1<LIM:=by rw [Kp7];unfold LIM;omega
    have HNw:=hid (λW (hW:Ext Z W)=>Kg8 (n:=q) (d:=1) hqn h1n (by omega) (w:=W) (HL.out.ext (hEZ.trans hW)));rw [Kql,Kqj,show I 1 = .string ⟨#[49]⟩ by unfold I S;rw [Yl]] at HNw;have HSm:=hid (λW=>Kiz (a:=q) (b:=1) (w:=W) (by omega) (by omega) (by omega));rw [show I 1 = .string ⟨#[49]⟩ by unfold I S;rw [Yl]] at HSm;obtain ⟨p0,p1,_,_⟩:=Ky hP.out;clear hq hlow hci hce hciN hlowN hsb hqn h1n;go_upto_region 9 with fail
    go_cut [10,11] from 40 to 50 (λpv ev wx => ∃b10:Nat,pv = .pointer (some ⟨b10,0,none⟩)/\Hid (Kd 47 Z.heap.size wx b10 2 [I q,.string ⟨#[49]⟩])/\Ext Z wx)
    case first =>
     go_wp2_with fail;have d0:Ext Z Z.drew:=(Ext.refl Z).drew;refine Ke (S:=λW=>Ext Z W) 13 (by kernel_rfl) (by simp) ?_;intro inv;generalize Z.drew=Zd at *;refine tkS (i:=0) (v := .slice (some ⟨gl,0,none⟩) n cl) rfl d0 inv ?_;intro inv;go_simp;refine tkS (i:=1) (v := .int .i64 i) rfl d0 inv ?_;intro inv;go_simp;refine tkS (i:=2) (v := .pointer (some ⟨gl,i*2,none⟩)) rfl d0 inv ?_;intro inv;go_simp;refine tkA (i:=3) (v:=RV ci) rfl (.inl ⟨by rfl,λW hW=>by have y0:=hW.cell x0;have y1:=hW.cell x1;go_simp⟩) d0 inv ?_;intro inv;go_simp;refine tkA (i:=4) (v:=RV low) rfl (.inl ⟨by rfl,λW hW=>by have y0:=hW.cell p0;have y1:=hW.cell p1;go_simp⟩) d0 inv ?_;intro inv;go_simp;refine KZ (i:=5) (j:=11) rfl rfl (by kernel_rfl) inv (λinv K1 hK1 => ?_) (λinv K1 hK1 => ?_)
     ·skip
      go_simp;refine (HSu.out _ d0).mono ?_;rintro e V21 ⟨rfl,hGc⟩;have d22:=d0.trans hGc;refine hK1 _ _ d22 ?_;clear hK1;refine KZ (i:=6) (j:=11) rfl rfl (by kernel_rfl) inv (λinv K1 hK1 => ?_) (λinv K1 hK1 => ?_)
      ·skip
       go_simp;refine (HFl.out _ d22).mono ?_;rintro e V23 ⟨rfl,hGc⟩;have d24:=d22.trans hGc;refine hK1 _ _ d24 ?_;clear hK1;refine KZ (i:=7) (j:=11) rfl rfl (by kernel_rfl) inv (λinv K1 hK1 => ?_) (λinv K1 hK1 => ?_)
       ·skip
        go_simp;refine (HNw.out _ d24).mono ?_;rintro e V25 ⟨rfl,hGc⟩;have d26:=d24.trans hGc;refine hK1 _ _ d26 ?_;clear hK1;refine tkS (i:=8) (v := .tuple #[.agg #[I q,.string ⟨#[49]⟩],.int .i64 0]) rfl d26 inv ?_;intro inv;go_simp;refine tkS (i:=9) (v := .agg #[I q,.string ⟨#[49]⟩]) rfl d26 inv ?_;intro inv;go_simp;refine KZ (i:=10) (j:=11) rfl rfl (by kernel_rfl) inv (λinv K1 hK1 => ?_) (λinv K1 hK1 => ?_)
        ·skip
         go_simp;refine hK1 _ _ d26 ?_;clear hK1;refine Kf (i:=11) rfl (by kernel_rfl) inv (λinv K1 hK1 => ?_);go_simp;have d28:Ext Z (V25.alloc (.cells #[.string ⟨#[]⟩,.string ⟨#[]⟩] 47)):=d26.alloc _;have k6:=hid ((Zg V25 (.string ⟨#[]⟩) (.string ⟨#[]⟩)).mono d26.size);refine hK1 _ _ d28 ?_;obtain ⟨b10,hb10⟩ : ∃b,b=V25.heap.size:=⟨_,rfl⟩
         rw [<-hb10] at k6 ⊢;clear hb10 hK1;generalize V25.alloc (.cells #[.string ⟨#[]⟩,.string ⟨#[]⟩] 47)=V27 at *;refine Kf (i:=12) rfl (by kernel_rfl) inv (λinv K1 hK1 => ?_);obtain ⟨t0,t1,f0,f1⟩:=Ky k6.out;obtain ⟨hP3,hE4,hG3⟩:=ZW k6.out d28 k6.out.lt.1 (I q) (.string ⟨#[49]⟩);replace k6:=hid hP3;have d29:=hE4;clear hP3 hE4 hG3;go_simp;refine hK1 _ _ d29 ?_;clear hK1 t0 t1 f0 f1;refine Ki (by kernel_rfl) ?_;have HE4:=hid d29;go_wp2_with fail;go_meet;exact ⟨b10,rfl,k6,HE4.out⟩
        ·skip
         go_simp;have d32:Ext Z (V25.alloc (.cells #[.string ⟨#[]⟩,.string ⟨#[]⟩] 47)):=d26.alloc _;have k6:=hid ((Zg V25 (.string ⟨#[]⟩) (.string ⟨#[]⟩)).mono d26.size);refine hK1 _ _ d32 ?_;obtain ⟨b10,hb10⟩ : ∃b,b=V25.heap.size:=⟨_,rfl⟩
         rw [<-hb10] at k6 ⊢;clear hb10 hK1;generalize V25.alloc (.cells #[.string ⟨#[]⟩,.string ⟨#[]⟩] 47)=V31 at *;refine KZ (i:=10) (j:=12) rfl rfl (by kernel_rfl) inv (λinv K1 hK1 => ?_) (λinv K1 hK1 => ?_)
         ·skip
          go_simp;refine hK1 _ _ d32 ?_;clear hK1;refine Kf (i:=12) rfl (by kernel_rfl) inv (λinv K1 hK1 => ?_);obtain ⟨t0,t1,f0,f1⟩:=Ky k6.out;obtain ⟨hP3,hE4,hG3⟩:=ZW k6.out d32 k6.out.lt.1 (I q) (.string ⟨#[49]⟩);replace k6:=hid hP3;have d33:=hE4;clear hP3 hE4 hG3;go_simp;refine hK1 _ _ d33 ?_;clear hK1 t0 t1 f0 f1;refine Ki (by kernel_rfl) ?_;have HE4:=hid d33;go_wp2_with fail;go_meet;exact ⟨b10,rfl,k6,HE4.out⟩
         ·skip
          obtain ⟨t0,t1,f0,f1⟩:=Ky k6.out;obtain ⟨hP3,hE4,hG3⟩:=ZW k6.out d32 k6.out.lt.1 (I q) (.string ⟨#[49]⟩);replace k6:=hid hP3;have d35:=hE4;clear hP3 hE4 hG3;go_simp;refine hK1 _ _ d35 ?_;clear hK1 t0 t1 f0 f1;refine Kf (i:=10) rfl (by kernel_rfl) inv (λinv K1 hK1 => ?_);go_simp;refine hK1 _ _ d35 ?_;clear hK1;refine Ki (by kernel_rfl) ?_;have HE4:=hid d35;go_wp2_with fail;go_meet;exact ⟨b10,rfl,k6,HE4.out⟩
       ·skip
        go_simp;have d38:Ext Z (V23.alloc (.cells #[.string ⟨#[]⟩,.string ⟨#[]⟩] 47)):=d24.alloc _;have k6:=hid ((Zg V23 (.string ⟨#[]⟩) (.string ⟨#[]⟩)).mono d24.size);refine hK1 _ _ d38 ?_;obtain ⟨b10,hb10⟩ : ∃b,b=V23.heap.size:=⟨_,rfl⟩
        rw [<-hb10] at k6 ⊢;clear hb10 hK1;generalize V23.alloc (.cells #[.string ⟨#[]⟩,.string ⟨#[]⟩] 47)=V37 at *;refine Kf (i:=7) rfl (by kernel_rfl) inv (λinv K1 hK1 => ?_);go_simp;refine (HNw.out _ d38).mono ?_;rintro e V39 ⟨rfl,hGc⟩;have d40:=d38.trans hGc;replace k6:=hid (k6.out.ext hGc);refine hK1 _ _ d40 ?_;clear hK1;refine tkS (i:=8) (v := .tuple #[.agg #[I q,.string ⟨#[49]⟩],.int .i64 0]) rfl d40 inv ?_;intro inv;go_simp;refine tkS (i:=9) (v := .agg #[I q,.string ⟨#[49]⟩]) rfl d40 inv ?_;intro inv;go_simp;refine KZ (i:=10) (j:=12) rfl rfl (by kernel_rfl) inv (λinv K1 hK1 => ?_) (λinv K1 hK1 => ?_)
        ·skip
         go_simp;refine hK1 _ _ d40 ?_;clear hK1;refine Kf (i:=12) rfl (by kernel_rfl) inv (λinv K1 hK1 => ?_);obtain ⟨t0,t1,f0,f1⟩:=Ky k6.out;obtain ⟨hP3,hE4,hG3⟩:=ZW k6.out d40 k6.out.lt.1 (I q) (.string ⟨#[49]⟩);replace k6:=hid hP3;have d41:=hE4;clear hP3 hE4 hG3;go_simp;refine hK1 _ _ d41 ?_;clear hK1 t0 t1 f0 f1;refine Ki (by kernel_rfl) ?_;have HE4:=hid d41;go_wp2_with fail;go_meet;exact ⟨b10,rfl,k6,HE4.out⟩
        ·skip
         obtain ⟨t0,t1,f0,f1⟩:=Ky k6.out;obtain ⟨hP3,hE4,hG3⟩:=ZW k6.out d40 k6.out.lt.1 (I q) (.string ⟨#[49]⟩);replace k6:=hid hP3;have d43:=hE4;clear hP3 hE4 hG3;go_simp;refine hK1 _ _ d43 ?_;clear hK1 t0 t1 f0 f1;refine Kf (i:=10) rfl (by kernel_rfl) inv (λinv K1 hK1 => ?_);go_simp;refine hK1 _ _ d43 ?_;clear hK1;refine Ki (by kernel_rfl) ?_;have HE4:=hid d43;go_wp2_with fail;go_meet;exact ⟨b10,rfl,k6,HE4.out⟩
      ·skip
       go_simp;have d46:Ext Z (V21.alloc (.cells #[.string ⟨#[]⟩,.string ⟨#[]⟩] 47)):=d22.alloc _;have k6:=hid ((Zg V21 (.string ⟨#[]⟩) (.string ⟨#[]⟩)).mono d22.size);refine hK1 _ _ d46 ?_;obtain ⟨b10,hb10⟩ : ∃b,b=V21.heap.size:=⟨_,rfl⟩
       rw [<-hb10] at k6 ⊢;clear hb10 hK1;generalize V21.alloc (.cells #[.string ⟨#[]⟩,.string ⟨#[]⟩] 47)=V45 at *;refine Kf (i:=6) rfl (by kernel_rfl) inv (λinv K1 hK1 => ?_);go_simp;refine (HFl.out _ d46).mono ?_;rintro e V47 ⟨rfl,hGc⟩;have d48:=d46.trans hGc;replace k6:=hid (k6.out.ext hGc);refine hK1 _ _ d48 ?_;clear hK1;refine Kf (i:=7) rfl (by kernel_rfl) inv (λinv K1 hK1 => ?_);go_simp;refine (HNw.out _ d48).mono ?_;rintro e V49 ⟨rfl,hGc⟩;have d50:=d48.trans hGc;replace k6:=hid (k6.out.ext hGc);refine hK1 _ _ d50 ?_;clear hK1;refine tkS (i:=8) (v := .tuple #[.agg #[I q,.string ⟨#[49]⟩],.int .i64 0]) rfl d50 inv ?_;intro inv;go_simp;refine tkS (i:=9) (v := .agg #[I q,.string ⟨#[49]⟩]) rfl d50 inv ?_;intro inv;go_simp;refine KZ (i:=10) (j:=12) rfl rfl (by kernel_rfl) inv (λinv K1 hK1 => ?_) (λinv K1 hK1 => ?_)
       ·skip
        go_simp;refine hK1 _ _ d50 ?_;clear hK1;refine Kf (i:=12) rfl (by kernel_rfl) inv (λinv K1 hK1 => ?_);obtain ⟨t0,t1,f0,f1⟩:=Ky k6.out;obtain ⟨hP3,hE4,hG3⟩:=ZW k6.out d50 k6.out.lt.1 (I q) (.string ⟨#[49]⟩);replace k6:=hid hP3;have d51:=hE4;clear hP3 hE4 hG3;go_simp;refine hK1 _ _ d51 ?_;clear hK1 t0 t1 f0 f1;refine Ki (by kernel_rfl) ?_;have HE4:=hid d51;go_wp2_with fail;go_meet;exact ⟨b10,rfl,k6,HE4.out⟩
       ·skip
        obtain ⟨t0,t1,f0,f1⟩:=Ky k6.out;obtain ⟨hP3,hE4,hG3⟩:=ZW k6.out d50 k6.out.lt.1 (I q) (.string ⟨#[49]⟩);replace k6:=hid hP3;have d53:=hE4;clear hP3 hE4 hG3;go_simp;refine hK1 _ _ d53 ?_;clear hK1 t0 t1 f0 f1;refine Kf (i:=10) rfl (by kernel_rfl) inv (λinv K1 hK1 => ?_);go_simp;refine hK1 _ _ d53 ?_;clear hK1;refine Ki (by kernel_rfl) ?_;have HE4:=hid d53;go_wp2_with fail;go_meet;exact ⟨b10,rfl,k6,HE4.out⟩
     ·skip
      go_simp;have d56:Ext Z (Zd.alloc (.cells #[.string ⟨#[]⟩,.string ⟨#[]⟩] 47)):=d0.alloc _;have k6:=hid ((Zg Zd (.string ⟨#[]⟩) (.string ⟨#[]⟩)).mono d0.size);refine hK1 _ _ d56 ?_;obtain ⟨b10,hb10⟩ : ∃b,b=Zd.heap.size:=⟨_,rfl⟩
      rw [<-hb10] at k6 ⊢;clear hb10 hK1;generalize Zd.alloc (.cells #[.string ⟨#[]⟩,.string ⟨#[]⟩] 47)=V55 at *;refine Kf (i:=5) rfl (by kernel_rfl) inv (λinv K1 hK1 => ?_);go_simp;refine (HSu.out _ d56).mono ?_;rintro e V57 ⟨rfl,hGc⟩;have d58:=d56.trans hGc;replace k6:=hid (k6.out.ext hGc);refine hK1 _ _ d58 ?_;clear hK1;refine Kf (i:=6) rfl (by kernel_rfl) inv (λinv K1 hK1 => ?_);go_simp;refine (HFl.out _ d58).mono ?_;rintro e V59 ⟨rfl,hGc⟩;have d60:=d58.trans hGc;replace k6:=hid (k6.out.ext hGc);refine hK1 _ _ d60 ?_;clear hK1;refine Kf (i:=7) rfl (by kernel_rfl) inv (λinv K1 hK1 => ?_);go_simp;refine (HNw.out _ d60).mono ?_;rintro e V61 ⟨rfl,hGc⟩;have d62:=d60.trans hGc;replace k6:=hid (k6.out.ext hGc);refine hK1 _ _ d62 ?_;clear hK1;refine tkS (i:=8) (v := .tuple #[.agg #[I q,.string ⟨#[49]⟩],.int .i64 0]) rfl d62 inv ?_;intro inv;go_simp;refine tkS (i:=9) (v := .agg #[I q,.string ⟨#[49]⟩]) rfl d62 inv ?_;intro inv;go_simp;refine KZ (i:=10) (j:=12) rfl rfl (by kernel_rfl) inv (λinv K1 hK1 => ?_) (λinv K1 hK1 => ?_)
      ·skip
       go_simp;refine hK1 _ _ d62 ?_;clear hK1;refine Kf (i:=12) rfl (by kernel_rfl) inv (λinv K1 hK1 => ?_);obtain ⟨t0,t1,f0,f1⟩:=Ky k6.out;obtain ⟨hP3,hE4,hG3⟩:=ZW k6.out d62 k6.out.lt.1 (I q) (.string ⟨#[49]⟩);replace k6:=hid hP3;have d63:=hE4;clear hP3 hE4 hG3;go_simp;refine hK1 _ _ d63 ?_;clear hK1 t0 t1 f0 f1;refine Ki (by kernel_rfl) ?_;have HE4:=hid d63;go_wp2_with fail;go_meet;exact ⟨b10,rfl,k6,HE4.out⟩
      ·skip
       obtain ⟨t0,t1,f0,f1⟩:=Ky k6.out;obtain ⟨hP3,hE4,hG3⟩:=ZW k6.out d62 k6.out.lt.1 (I q) (.string ⟨#[49]⟩);replace k6:=hid hP3;have d65:=hE4;clear hP3 hE4 hG3;go_simp;refine hK1 _ _ d65 ?_;clear hK1 t0 t1 f0 f1;refine Kf (i:=10) rfl (by kernel_rfl) inv (λinv K1 hK1 => ?_);go_simp;refine hK1 _ _ d65 ?_;clear hK1;refine Ki (by kernel_rfl) ?_;have HE4:=hid d65;go_wp2_with fail;go_meet;exact ⟨b10,rfl,k6,HE4.out⟩
    case rest =>
     obtain ⟨b10,rfl,h10,hE10⟩:=hcut;generalize wc=V6 at *;have hE6:=hEx.trans hE10;have hY6:=hid (hY.out.ext hE10);obtain ⟨k0,k1,_,_⟩:=Ky h10.out;clear HSu HFl HNw hP x0 x1 p0 p1 hEx hEZ hY hE10 h10;go_wp2_with fail;refine (HSm.out _).mono ?_;rintro e V7 ⟨rfl,hE7⟩;have hEY:=hE6.trans hE7;have hY7:=hid (hY6.out.ext hE7);have a1:=hEY.cell a1;clear HSm hE6 hE7 hY6 k0 k1
     by_cases hk0:i=0
     ·subst hk0;obtain ⟨y,hy⟩ : ∃y,y=(rdT x (bsM n M) (qE O c) n 0 0).getD 0 0:=⟨_,rfl⟩
      have hyb : -100000000000<=y/\y<=100000000000:=by rw [hy];exact Hrb.out 0 0 0 (by omega)
      have k0:V7.cell? ⟨g,0,none⟩=some (.int .i64 y):=by
       rw [hY7.out.cell (j:=0) (by simpa using hn0),hy,Ka (by simpa using hn0)];simp [is]
      have hst:=hid (show (is (rdT x (bsM n M) (qE O c) n 0 0)).set 0 (.int .i64 (y-q))=is (rdT x (bsM n M) (qE O c) n 1 0) by
       rw [hy,Hq.out,<-YO,Klh hn0])
      have hwr:IntKind.i64.wrap (y-q)=y-q:=IntWalk.i64_in _ (by omega);have f0:=hY7.out.frozen 0;obtain ⟨s1,g1⟩:=hY7.out.set 0 (.int .i64 (y-q));rw [hst.out] at s1;have HS1:=hid s1;have HE1:=hid (Kb hEY g1 hY7.out.lt.1);have hn0i:(0:Int)<(n:Int):=by omega
      clear s1 g1 hy;go_wp2_with fail;go_roundw
      case rel=>exact ⟨1,by omega,by go_num,HS1,HE1.out⟩
      case measure=>simp [intOf]<;>omega
     ·have hki : ¬(i:Int)=0:=by omega
      have hkf:((i:Int)==0)=false:=by simp [hk0]
      go_wp2_with fail
      go_loopw [15] (λpv wr => ∃p:Nat,p<=n/\pv = .int .i64 p/\Hid (Kd 3 W1.heap.size wr g cap (is (rdT x (bsM n M) (qE O c) n i p)))/\Ext W1 wr) (λpv _=>n-(intOf pv).toNat)
      case atStart=>exact ⟨0,by omega,by go_num,hY7,hEY⟩
      case round =>
       clear hY7 hEY a1;obtain ⟨p,hp',rfl,hY,hE⟩:=hrel;generalize wr=U at *
       by_cases hpn:p<n
       ·have hpi:(p:Int)<(n:Int):=by omega
        obtain ⟨k1,hk1⟩ : ∃k1,k1=i-1:=⟨_,rfl⟩
        have hk1m:k1<m:=by omega
        obtain ⟨gr,or,cr,r1,r2⟩:=Hrow.out k1 hk1m;obtain ⟨z,hz⟩ : ∃z,z=eM M k1 p:=⟨_,rfl⟩
        have r3:=r2 p hpn;rw [<-hz] at r3;have hzb:(-8:Int)<=z/\z<=8:=by rw [hz];exact HMb.out k1 p
        have hEU:=hE1w.trans hE;have r1:=hEU.cell r1;have r3:=hEU.cell r3;have a1:=hE.cell a1;obtain ⟨y,hy⟩ : ∃y,y=(rdT x (bsM n M) (qE O c) n i p).getD p 0:=⟨_,rfl⟩
        have hyb : -100000000000<=y/\y<=100000000000:=by rw [hy];exact Hrb.out i p p (by omega)
        have k0:U.cell? ⟨g,p,none⟩=some (.int .i64 y):=by
         rw [hY.out.cell (j:=p) (by simpa using hpn),hy,Ka (by simpa using hpn)];simp [is]
        have hst:=hid (show (is (rdT x (bsM n M) (qE O c) n i p)).set p (.int .i64 (y-q*z))=is (rdT x (bsM n M) (qE O c) n i (p+1)) by
         rw [hy,Hq.out,hz,show eM M k1 p=eM (bsM n M) i p by rw [show i=k1+1 by omega];rfl,<-YO,KhO hpn])
        have hpb:(q*z).natAbs<=257000013*8:=by rw [Int.natAbs_mul];exact Nat.mul_le_mul (by omega) (by omega)
        have hk1i:(i:Int)-1=(k1:Int):=by omega
        have hk1m':(k1:Int)<(m:Int):=by omega
        have w1:IntKind.i64.wrap ((i:Int)-1)=(k1:Int):=by rw [hk1i];exact IntWalk.i64_in _ (by omega)
        have w2:IntKind.i64.wrap (q*z)=q*z:=IntWalk.i64_in _ (by omega);have w3:IntKind.i64.wrap (y-q*z)=y-q*z:=IntWalk.i64_in _ (by omega);clear hy hz r2 hk1 hk1i;go_wp2_with fail;have d0:Ext U U.drew:=(Ext.refl U).drew;refine Ke (S:=λW=>Ext U W) 16 (by kernel_rfl) (by simp) ?_;intro inv;generalize U.drew=Ud at *;refine tkS (i:=0) (v:=slv g n cap) rfl d0 inv ?_;intro inv;go_simp;refine tkS (i:=1) (v := .int .i64 p) rfl d0 inv ?_;intro inv;go_simp;refine tkS (i:=2) (v := .pointer (some ⟨g,p,none⟩)) rfl d0 inv ?_;intro inv;go_simp;refine tkA (i:=3) (v := .int .i64 y) rfl (.inl ⟨by rfl,λW hW=>by have y0:=hW.cell k0;go_simp⟩) d0 inv ?_;intro inv;go_simp;refine tkS (i:=4) (v := .int .i64 q) rfl d0 inv ?_;intro inv;go_simp;refine tkS (i:=5) (v := .pointer (some ⟨w.heap.size,1,none⟩)) rfl d0 inv ?_;intro inv;go_simp;refine tkA (i:=6) (v := .slice (some ⟨gm,om,none⟩) m cu) rfl (.inl ⟨by rfl,λW hW=>by have y0:=hW.cell a1;go_simp⟩) d0 inv ?_;intro inv;go_simp;refine tkS (i:=7) (v := .int .i64 i) rfl d0 inv ?_;intro inv;go_simp;refine tkS (i:=8) (v := .int .i64 k1) rfl d0 inv ?_;intro inv;go_simp;refine tkS (i:=9) (v := .pointer (some ⟨gm,om+k1,none⟩)) rfl d0 inv ?_;intro inv;go_simp;refine tkA (i:=10) (v := .slice (some ⟨gr,or,none⟩) n cr) rfl (.inl ⟨by rfl,λW hW=>by have y0:=hW.cell r1;go_simp⟩) d0 inv ?_;intro inv;go_simp;refine tkS (i:=11) (v := .int .i64 p) rfl d0 inv ?_;intro inv;go_simp
        refine tkS (i:=12) (v := .pointer (some ⟨gr,or+p,none⟩)) rfl d0 inv ?_;intro inv;go_simp;refine tkA (i:=13) (v := .int .i64 z) rfl (.inl ⟨by rfl,λW hW=>by have y0:=hW.cell r3;go_simp⟩) d0 inv ?_;intro inv;go_simp;refine tkS (i:=14) (v := .int .i64 (q*z)) rfl d0 inv ?_;intro inv;go_simp;refine tkS (i:=15) (v := .int .i64 (y-q*z)) rfl d0 inv ?_;intro inv;go_simp;refine Ki (by kernel_rfl) ?_;have f0:=(hY.out.ext d0).frozen p;have kc:=d0.cell k0;obtain ⟨s1,g1⟩:=(hY.out.ext d0).set p (.int .i64 (y-q*z));rw [hst.out] at s1;have HS:=hid s1;have HE:=hid (Kb (hE.trans d0) g1 hY.out.lt.1);clear s1 g1 hY hE r1 r3 a1;go_wp2_with fail;go_roundw
        case rel=>exact ⟨p+1,by omega,by go_num,HS,HE.out⟩
        case measure=>simp [intOf]<;>omega
       ·obtain rfl:n=p:=by omega
        rw [KhN] at hY;go_wp2_with fail;go_roundw
        case rel=>exact ⟨i+1,by omega,by go_num,hY,hE⟩
        case measure=>simp [intOf]<;>omega
  ·obtain rfl:n=i:=by omega
   rw [Kj6] at hY;have hres:=hid (show ∃v,Ending.returned (slv g n cap) = .returned v/\KH w.heap.size V v (rdL n M O x c)/\Ext w V from ⟨_,rfl,KH.mono (by have h:=hY.out;unfold Kd at h;rw [Kq,Xp] at h;unfold KH;rw [Xp];exact h) hE1w.size,hE1w.trans hE⟩);clear hY;go_wp2_with fail;go_ret;exact hres.out
end
end Go.Proofs.YtdmaofimeknkbaaGreatDoor
