/- Part 46 of the proof of the claim: contracts of the functions that it reaches, and plain laws; no condition. -/
import Derived.Test.YtmhfccigejcphaaGreatDoorQ45
import Derived.Test.YtmhfccigejcphaaGreatDoorQ44
set_option maxRecDepth 100000
set_option maxHeartbeats 20000000
namespace Go.Proofs.YtmhfccigejcphaaGreatDoor
section
open Go.RowKit Go.Sort
open Lib (hid)
def coL (c:Nat->Rat) (i:Nat):List Rat:=(List.range i).map c
@[simp] theorem Zr (c:Nat->Rat) (i:Nat):(coL c i).length=i:=by simp [coL]
theorem KlR (c:Nat->Rat) (i:Nat):coL c i++[c i]=coL c (i+1):=by simp [coL,List.range_succ]
theorem Kis {T:TypeId} {B K:Nat} {w w':World} {g cap:Nat} {xs:List Value} (h:Kd T B w g cap xs) (hB:Below K w w') (hg:g<K):Kd T B w' g cap xs:=by
 obtain ⟨cur,h1,h2,h3,h4,h5,h6⟩:=h.parts;exact Kd.of h1 (by rw [hB.block g hg];exact h2) h3 h4 h5 h6
theorem KjP {B L n:Nat} {T:TypeId} {w:World} {v:Value} {xs:List Value} (h:w.ownsRow B T 1 v L xs) (hL:L=n) (h0:0<n) : ∃g c,v=slv g n c:=by
 subst hL
 rcases h.2 with ⟨_,h1⟩ | ⟨g,cap,cur,rfl,_⟩
 ·omega
 ·exact ⟨g,cap,rfl⟩
theorem KmM {B L g n c:Nat} {T:TypeId} {w:World} {xs:List Value} (h:w.ownsRow B T 1 (slv g n c) L xs) (hL:L=n) (hx:xs.length=n):Kd T B w g c xs:=by
 subst hL;unfold Kd;rw [hx];exact h
theorem Kng {B g n:Nat} {w:World} (h:Kd 3 B w g n ((is (List.replicate n 0)).set 0 (.int .i64 1))):Kd 3 B w g n (is (Yp n 0)):=by
 rw [<-KbM] at h;exact h
theorem Ka2 {w:World} {n cp cx:Nat} {sp sx:Option Addr} {vu vo:Value} {M:Mx} {vl x:List Int} {c:Nat->Rat} (hB:BkM n M vl) (hM:Qb w vu M) (hx:KQ w (.slice sx n cx) x) (hxl:x.length=n) (hxb : ∀z∈x,z.natAbs<=1000000) (hc:CoV n M (λi=>((x.getD i 0:Int):Rat)) c) (hL:Laid w) :
  Calls Tryz.prog 36 #[.agg #[.slice sp n cp,vu,vo],.slice sx n cx] w λe w' => ∃v,e = .returned v/\SzV w.heap.size w' v (coL c n)/\Ext w w':=by
 have hn:=hB.hn;have hn0:0<n:=by omega
 have hn3:n<=3:=by omega
 have hMl:=hB.len;obtain ⟨i0,hi,hz0,hz1,hz2⟩:=info_parts Tryz.infoInt;obtain ⟨hdet0,hdet⟩:=KlW hB hxl hc;obtain ⟨sa,gm,om,cap,vs,rfl,hcap,hvl,hS,hr⟩:=hM;obtain ⟨m,hm⟩ : ∃m,m=M.length:=⟨_,rfl⟩
 rw [<-hm] at hcap ⊢;have hm0:0<m:=by omega
 have hmn:1+m=n:=by omega
 have hm2:m<=2:=by omega
 have HX:=JD w 60 (.slice sp n cp) (.slice sa m cap) vo;have hE0:Ext w (w.alloc (.cells #[.slice sp n cp,.slice sa m cap,vo] 60)):=(Ext.refl w).alloc _;obtain ⟨a0,a1,a2⟩:=Zp HX;have HS:=hid hS;have HV:=hid hvl;have HR:=hid hr;have Hx:=hid hx;have Hxl:=hid hxl;have Hxb:=hid hxb;have HB:=hid hB;have HL:=hid hL;have Hm:=hid hm;have Hdet:=hid hdet;have Hdet0:=hid hdet0;have Hn:=hid hn;have Hmn:=hid hmn
 have h1v:=hid (show ∀u∈vs,u.oneCell'=true from λu hu=>by
  obtain ⟨i,hi,rfl⟩:=List.getElem_of_mem hu
  exact (HR.out i (by rw [<-HV.out];exact hi) hi).one)
 clear hS hvl hr hx hxl hxb hB hL hm hn hdet hdet0 hMl hc HX a2 hmn
 go_enter Tryz.func36,Tryz.ntmps36
 go_upto_region 1 with fail;have hbw0:w.heap.size<(w.alloc (.cells #[.slice sp n cp,.slice sa m cap,vo] 60)).heap.size:=World.block_lt_of_cell? _ _ a0;generalize w.alloc (.cells #[.slice sp n cp,.slice sa m cap,vo] _)=W0 at *;go_upto_region 2 with (at_make;refine wpList_make_full _ rfl _ _ 30 rfl W0.heap.size 3 i0 (.int .i64 0) 1 Tryz.underlying30 hi hz0 hz1 .i64 .i64 _ _ n rfl rfl (by omega) (by omega) (by rw [hz2];omega) (by unfold maxLen;omega) (Nat.le_refl _) ?_;intro w1 hown1 hgrow1)
 have hE1:Ext W0 w1:=Qp hgrow1;obtain ⟨g,hg⟩ : ∃g,g=W0.heap.size:=⟨_,rfl⟩
 have hR1:Kd 3 W0.heap.size w1 W0.heap.size n (is (List.replicate n 0)):=Kbn (Kew hown1) (by simp);have hgle:W0.heap.size<=g:=by omega
 have eA:Ext w1 (w1.alloc (.cells #[slv W0.heap.size n n] 30)):=(Ext.refl w1).alloc _;have hH:Kd 30 w1.heap.size (w1.alloc (.cells #[slv W0.heap.size n n] 30)) w1.heap.size 1 [slv W0.heap.size n n]:=Kd.of (Nat.le_refl _) Array.getElem?_push_size (by simp) (by unfold maxLen;omega) rfl rfl;have hR2:=hR1.ext eA;have hgl:=hR1.lt.2;have h0:=hH.cell (j:=0) (by simp)
 have k0:(w1.alloc (.cells #[slv W0.heap.size n n] 30)).cell? ⟨W0.heap.size,0,none⟩=some (.int .i64 0):=by
  rw [hR2.cell (j:=0) (by simpa using hn0)];simp [is]
 have f0:=hR2.frozen 0;obtain ⟨hs2,hg2⟩:=hR2.set 0 (.int .i64 1);have hE1':=hE1.trans eA;have a0:=hE1'.cell a0;have a1:=hE1'.cell a1;have hbW1:W0.heap.size<=w1.heap.size:=hE1.size;obtain ⟨b,hb⟩ : ∃b,b=w1.heap.size:=⟨_,rfl⟩
 rw [<-hb] at hH h0 hgl hbW1;generalize w1.alloc (.cells #[slv W0.heap.size n n] _)=W2 at *;rw [<-hg] at hs2 hg2 f0 k0 h0 hH hgl;rw [<-hg,<-hb];clear hown1 hgrow1 hR1 hR2 hE1 eA hb hg;go_upto_region 3 with fail;have hE3:Ext W0 (W2.setCell ⟨g,0,none⟩ (.int .i64 1)):=Kb hE1' hg2 hgle;have hR3:=hid (Kng hs2);have hH3:=hid (World.ownsRow.kept hH hg2 (.inr (λe=>by have e2:b=g:=Option.some.inj e;omega)));have hb3:=Kd.lt hH3.out;have a1:=Kx hg2 (by omega) a1;generalize W2.setCell ⟨g,0,none⟩ (.int .i64 1)=W3 at *;have hE3w:=hE0.trans hE3;have hS3:=hid (HS.out.ext hE3w);clear hs2 hg2 f0 k0 h0 hH hE1' a0;go_upto_region 4 with (at_builtin;refine KhY rfl _ _ rfl (B:=b) (n:=1) (xs:=[slv g n n]) rfl hH3.out rfl hS3.out (by rw [HV.out,Hm.out]) hm0 h1v.out (by omega) (by omega) ?_;intro v4 w4 hO4 hB4)
 have hE4:Ext W0 w4:=Below.trans hE3 (hB4.mono hbW1);have hE4w:=hE0.trans hE4;have hg4:=Kis hR3.out hB4 hgl;have hbl:=Yc (n:=n) (M:=M) (by rw [<-Hm.out];have:=Hmn.out;omega);have hvl:([slv g n n]++vs).length=n:=by have:=Hmn.out;simp [HV.out,<-Hm.out];omega
 have HRW:=hid (show ∀j (_:j<(bsM n M).length) (h':j<([slv g n n]++vs).length),KQ w4 ([slv g n n]++vs)[j] (bsM n M)[j] from λj h1 h2=>by
  match j,h1,h2 with
  | 0,_,_ =>
   have:=Kd.rowR hg4;rw [Js] at this;exact this
  | j+1,h1,h2=>exact (HR.out j (by simpa [bsM] using h1) (by simpa using h2)).ext hE4w)
 obtain ⟨g4,c4,rfl⟩:=KjP hO4 Hmn.out hn0;have hO4':=KmM hO4 Hmn.out hvl;have hcols:=hid (KiX (F:=bsM n M) (by rw [hvl,hbl]) (by rw [hbl];have h:=hO4;rw [Hmn.out] at h;exact h) HRW.out);have HS4:=hid hO4'.sl;have Hvl:=hid hvl;have Hbl:=hid hbl;have hn8:n<=c4:=by have:=hO4'.cap;rw [hvl] at this;exact this
 have hde:=hid (KeY (w:=w4) Hn.out hcols.out hbl (Kde HB.out.rect) (Kdd hn0 HB.out.bd))
 have h1w:=hid (show ∀u∈[slv g n n]++vs,u.oneCell'=true from λu hu=>by
  rcases List.mem_append.1 hu with h | h
  ·rw [List.mem_singleton.1 h];rfl
  ·exact h1v.out u h)
 have Hin:=hid (show ∀i,(KcJ n ((bsM n M).set i x)).natAbs<=6000000000000000000 from λi=>KfN (KiH (Kdd hn0 HB.out.bd) Hxb.out i));have HDb:=hid (show (KcJ n (bsM n M)).natAbs<=6000000000000000000 from KfN (Kdd hn0 HB.out.bd));obtain ⟨D,hD⟩ : ∃D,D=KcJ n (bsM n M):=⟨_,rfl⟩
 have HD:=hid hD;rw [<-hD] at hde HDb;have Hx4:=hid (Hx.out.ext hE4w);clear hO4 hB4 hg4 hH3 hR3 hS3 hE3 hE3w hcols hO4' hvl hbl hD a1 h1v HS HR Hx hgl hbW1 hgle hbw0 hcap hm0 hb3;go_wp2_with fail;refine hde.out.mono ?_;rintro e w5 ⟨rfl,hE5⟩;have hE5w:=hE4w.trans hE5;clear hde;go_wp2_with fail
 go_loopw [7,8] (λvv iv wr => ∃i:Nat,i<=n/\iv = .int .i64 i/\Hid (SzV w5.heap.size wr vv (coL c i))/\Ext w5 wr) (λ_ iv _=>n-(intOf iv).toNat)
 case atStart=>exact ⟨0,by omega,by go_num,hid (SzV.nil _ _),Ext.refl _⟩
 case round =>
  obtain ⟨i,hi',rfl,hV,hE⟩:=hrel;generalize wr=X at *
  by_cases hin:i<n
  ·have hii:(i:Int)<(n:Int):=by omega
   have hE4X:=hE5.trans hE;have hSX:=hid (HS4.out.ext (hE4X.alloc (.cells #[] 30)));have hH0:=hid (show Kd 30 X.heap.size (X.alloc (.cells #[] 30)) X.heap.size 0 [] from Kd.of (Nat.le_refl _) (Kba _ _) (Nat.le_refl _) (Nat.zero_le _) rfl rfl);go_upto_region 10 with (at_builtin;refine KhY rfl _ _ rfl (B:=X.heap.size) (n:=0) (m:=n) (xs:=[]) (us:=[slv g n n]++vs) rfl hH0.out rfl hSX.out Hvl.out hn0 h1w.out (by omega) (by simp) ?_;intro v9 w9 hO9 hB9;rw [Nat.zero_add,List.nil_append] at hO9;obtain ⟨g9,c9,rfl⟩:=KjP hO9 rfl hn0)
   have hE9:Ext X w9:=Below.trans ((Ext.refl X).alloc _) hB9;have hO9':=KmM hO9 rfl Hvl.out;have f9:=hO9'.frozen i;obtain ⟨u9,k9⟩ : ∃u,w9.cell? ⟨g9,i,none⟩=some u:=⟨_,hO9'.cell (j:=i) (by rw [Hvl.out];exact hin)⟩
   obtain ⟨s10,gr10⟩:=hO9'.set i (.slice sx n cx);have hn9:n<=c9:=by have:=hO9'.cap;rw [Hvl.out] at this;exact this
   have hE10:Ext X (w9.setCell ⟨g9,i,none⟩ (.slice sx n cx)):=Kb hE9 gr10 hO9'.lt.1;clear hO9 hB9 hH0 hSX;go_upto_region 11 with fail
   have hMx:=hid (KiX (v:=slv g9 n c9) (F:=(bsM n M).set i x) (vs:=([slv g n n]++vs).set i (.slice sx n cx)) (by rw [List.length_set,List.length_set,Hvl.out,Hbl.out]) (by have h:=s10;unfold Kd at h;rw [List.length_set,Hvl.out] at h;rw [List.length_set,Hbl.out];exact h) (λj h1 h2=>by
    rw [List.getElem_set,List.getElem_set]
    by_cases e:i=j
    ·rw [if_pos e,if_pos e];exact Hx4.out.ext (hE4X.trans hE10)
    ·rw [if_neg e,if_neg e];exact (HRW.out j (by simpa using h1) (by simpa using h2)).ext (hE4X.trans hE10)))
   generalize w9.setCell ⟨g9,i,none⟩ (.slice sx n cx)=w10 at *;have hdi:=hid (KeY (w:=w10) Hn.out hMx.out (by rw [List.length_set];exact Hbl.out) (Km7 (Kde HB.out.rect) Hxl.out i) (KiH (Kdd hn0 HB.out.bd) Hxb.out i));have hib:=Hin.out i;have hDb:=HDb.out;have hq:=Hdet.out i hin;rw [<-HD.out] at hq;obtain ⟨di,hdi2⟩ : ∃di,di=KcJ n ((bsM n M).set i x):=⟨_,rfl⟩
   rw [<-hdi2] at hdi hib hq;have hof:=hid (λW (hW:Ext w10 W)=>Kaj (n:=di) (d:=D) (w:=W) (by omega) (by omega) (by rw [HD.out];exact Hdet0.out) (HL.out.ext ((hE5w.trans (hE.trans hE10)).trans hW)));rw [hq] at hof;obtain ⟨r,hr⟩ : ∃r,r=c i:=⟨_,rfl⟩
   rw [<-hr] at hof;have Hsn:=hid (show coL c i++[r]=coL c (i+1) by rw [hr,KlR]);have hV10:=hid (hV.out.ext hE10);have hEX:=hE.trans hE10;clear hMx s10 gr10 hO9' f9 k9 hdi2 hq hr hV hE10 hE9 hE hE4X;go_wp2_with fail;refine hdi.out.mono ?_;rintro e w11 ⟨rfl,hE11⟩;go_wp2_with fail;refine (hof.out _ hE11).mono ?_;rintro e w12 ⟨rfl,hE12⟩;have hV12:=hid ((hV10.out.ext hE11).ext hE12);have hE12':=(hEX.trans hE11).trans hE12;have hY:=Kr (QK w12 (I r.num) (I r.den));have eY:Ext w12 (w12.alloc (.cells #[I r.num,I r.den] 84)):=(Ext.refl w12).alloc _;clear hdi hof hV10 hEX hE11 hE12;go_upto_region 12 with fail;obtain ⟨y0,y1,_,_⟩:=hY;generalize w12.alloc (.cells #[I r.num,I r.den] _)=Y at *;have hVY:=hid (hV12.out.ext eY);have hEY:=hE12'.trans eY;have hsz:=hEY.size;have Hil:=hid (Zr c i);clear hV12 hE12' eY;go_wp2_with (at_builtin;refine KfI rfl _ _ 58 Tryz.underlying58 rfl rfl (hVY.out.ext ((Ext.refl _).alloc _)) (b:=Y.heap.size) rfl (r:=r) (by go_simp) (by go_simp) (by rw [Hil.out];omega) (by simp;omega) ?_;intro gg cap2 w8 hO8 hB8 hG8;rw [Hil.out] at hO8 ⊢;rw [Hsn.out] at hO8)
   have hE8:Ext w5 w8:=Below.trans (hEY.alloc _) hB8;have HO8:=hid hO8;clear hG8 hB8 hO8;go_wp2_with fail;go_roundw
   case rel=>exact ⟨i+1,by omega,by go_num,HO8,hE8⟩
   case measure=>simp [intOf]<;>omega
  ·obtain rfl:n=i:=by omega
   have hO2:=hid (hV.out.mono hE5w.size);have hEr:=hE5w.trans hE;have hres:=hid (show ∀ov,SzV w.heap.size X ov (coL c n) -> ∃v,Ending.returned ov = .returned v/\SzV w.heap.size X v (coL c n)/\Ext w X from λov h=>⟨ov,rfl,h,hEr⟩);go_wp2_with fail;go_ret;exact hres.out _ hO2.out
theorem Ko4:((0:Int):Rat)/((1:Int):Rat)=0:=by decide +kernel
theorem KqD:((1:Int):Rat)/((1:Int):Rat)=1:=by decide +kernel
theorem Knn {w:World} {n gb go:Nat} {l:List Rat} (hl:l.length=n) (h : ∀i (h:i<l.length),w.cell? ⟨gb,go+i*2,none⟩=some (I l[i].num)/\w.cell? ⟨gb,go+i*2+1,none⟩=some (I l[i].den)) {i:Nat} (hi:i<n):w.cell? ⟨gb,go+i*2,none⟩=some (I (l.getD i 0).num)/\w.cell? ⟨gb,go+i*2+1,none⟩=some (I (l.getD i 0).den):=by
 have h1:i<l.length:=by omega
 have e:l.getD i 0=l[i]:=by rw [List.getD_eq_getElem?_getD,List.getElem?_eq_getElem h1];rfl
 rw [e];exact h i h1
theorem KmK {O:List Rat} (h : ∀x∈O,NdQ 1000 x) (k:Nat):NdQ 1000 (Qf O k):=by
 unfold Qf;split
 ·exact NdQ.zero (by omega)
 ·exact NdQ.getD h (by omega) _
theorem KmJ {O:List Rat} {k k1:Nat} (h:k≠0) (hk:k1=k-1):Qf O k=O.getD k1 0:=by
 unfold Qf;rw [if_neg h,hk]
theorem KfW {w:World} {n cc:Nat} {vp vu vo:Value} {sc:Option Addr} {O l:List Rat} {c:Nat->Rat} (hn:n<=3) (hO:SzR w vo O) (hOl:O.length+1=n) (hOn : ∀x∈O,NdQ 1000 x) (hc:SzR w (.slice sc n cc) l) (hl:l.length=n) (hlc : ∀j,j<n->l.getD j 0=c j) (hcn : ∀j,j<n->NdQ 10000000 (c j)) (hL:Laid w) :
  Calls Tryz.prog 38 #[.agg #[vp,vu,vo],.slice sc n cc] w λe w' => ∃bv,e = .returned (.bool bv)/\(bv=true ↔ ∀j,j<n->qE O c j=0)/\Ext w w':=by
 obtain ⟨so,go,oo,co,rfl,hcO,hsO,hOc⟩:=hO;obtain ⟨sc',gc,oc,cc',ec,hcc,hsc,hcl⟩:=hc;obtain ⟨rfl,rfl,rfl⟩:sc=sc'/\n=l.length/\cc=cc':=by injection ec with e1 e2 e3;exact ⟨e1,e2,e3⟩
 obtain ⟨n,hnq⟩ : ∃n,n=l.length:=⟨_,rfl⟩
 rw [<-hnq] at hn hOl hlc hcn hcc ⊢;obtain ⟨m,hm⟩ : ∃m,m=O.length:=⟨_,rfl⟩
 rw [<-hm] at hOl hcO ⊢;have HO:=hid (λi (hi:i<m)=>Knn hm.symm hOc (i:=i) hi);have HC:=hid (λi (hi:i<n)=>Knn hnq.symm hcl (i:=i) hi);have HsO:=hid (show 0<m->so=some ⟨go,oo,none⟩ from λh=>hsO (by omega));have hn0:0<n:=by omega
 obtain rfl:=hsc (by omega);have Hcn:=hid hcn;have Hlc:=hid hlc;have Hoff:=hid (KmK hOn);have HL:=hid hL;have HX:=JD w 60 vp vu (.slice so m co);have hE0:Ext w (w.alloc (.cells #[vp,vu,.slice so m co] 60)):=(Ext.refl w).alloc _;obtain ⟨a0,a1,a2⟩:=Zp HX;have hon:=hid (λW (hW:Ext w W)=>Kaj (n:=1) (d:=1) (w:=W) (by omega) (by omega) (by omega) (hL.ext hW));have hze:=hid (λW (hW:Ext w W)=>Kaj (n:=0) (d:=1) (w:=W) (by omega) (by omega) (by omega) (hL.ext hW));rw [KqD] at hon;rw [Ko4] at hze;obtain ⟨r1,hr1⟩ : ∃r:Rat,r=1:=⟨_,rfl⟩
 obtain ⟨r0,hr0⟩ : ∃r:Rat,r=0:=⟨_,rfl⟩
 rw [<-hr1] at hon;rw [<-hr0] at hze;have Hr1:=hid hr1;have Hr0:=hid hr0;clear hr1 hr0 hlc hcn hOn hL HX a0 a1 hOc hsO hcl ec hsc hnq hm
 go_enter Tryz.func38,Tryz.ntmps38
 go_upto_region 1 with fail;generalize w.alloc (.cells #[vp,vu,.slice so m co] _)=W0 at *;go_wp2_with fail;refine (hon.out _ hE0).mono ?_;rintro e W1 ⟨rfl,hE1⟩;have a2:=hE1.cell a2;have hE1w:=hE0.trans hE1;have h5:=QK W1 (I r1.num) (I r1.den);have e5:Ext W1 (W1.alloc (.cells #[I r1.num,I r1.den] 84)):=(Ext.refl W1).alloc _;obtain ⟨b5,hb5⟩ : ∃b5,b5=W1.heap.size:=⟨_,rfl⟩
 obtain ⟨o0,o1,_,_⟩:=Kr h5;rw [<-hb5] at o0 o1;have a2:=e5.cell a2;clear hon h5;go_upto_region 2 with fail;generalize W1.alloc (.cells #[I r1.num,I r1.den] _)=Y at *;rw [<-hb5];clear hb5;have hEY:=hE1w.trans e5;go_wp2_with fail
 go_loopw [7] (λidx wr => ∃i:Nat,i<=n/\idx = .int .i64 i/\Hid (∀j,j<i->qE O c j=0)/\Ext Y wr) (λidx _=>n-(intOf idx).toNat)
 case atStart=>exact ⟨0,by omega,by go_num,hid (λj hj=>absurd hj (by omega)),Ext.refl _⟩
 case round =>
  obtain ⟨i,hi',rfl,hQ,hE⟩:=hrel;generalize wr=V at *;have hEV:=hEY.trans hE
  by_cases hin:i<n
  ·have hii:(i:Int)<(n:Int):=by omega
   go_wp2_with fail;refine (hze.out _ hEV).mono ?_;rintro e V1 ⟨rfl,hE2⟩;have HP:=hid (QK V1 (I r0.num) (I r0.den));have eA:Ext V1 (V1.alloc (.cells #[I r0.num,I r0.den] 84)):=(Ext.refl V1).alloc _;have hE3:=(hE.trans hE2).trans eA;have hbV:Y.heap.size<=V1.heap.size:=(hE.trans hE2).size;clear hE hE2 eA hEV;go_upto_region 6 with fail;generalize V1.alloc (.cells #[I r0.num,I r0.den] _)=V2 at *;obtain ⟨b8,hb8⟩ : ∃b8,b8=V1.heap.size:=⟨_,rfl⟩
   rw [<-hb8] at HP hbV ⊢;have HP2:=hid (HP.out.mono hbV);clear hb8 HP;go_upto_if 25 with fail
   go_cut [] from 24 to 31 (λwx=>Hid (Kd 84 Y.heap.size wx b8 2 [I (Qf O i).num,I (Qf O i).den])/\Ext Y wx)
   case first =>
    by_cases hk0:i=0
    ·subst hk0;go_wp2_with fail;go_meet;exact ⟨by have h:=HP2.out;rw [Hr0.out] at h;exact h,hE3⟩
    ·obtain ⟨k1,hk1⟩ : ∃k1,k1=i-1:=⟨_,rfl⟩
     have hk1m:k1<m:=by omega
     obtain ⟨q3,q4⟩:=HO.out k1 hk1m;obtain ⟨o,ho⟩ : ∃o,o=O.getD k1 0:=⟨_,rfl⟩
     rw [<-ho] at q3 q4;have hd:=hid (show Qf O i=o by rw [KmJ hk0 hk1,ho]);have hE12:=hEY.trans hE3;have q1:=hE3.cell a2;have q3:=hE12.cell q3;have q4:=hE12.cell q4;obtain rfl:=HsO.out (by omega);have hkp:(0:Int)<(i:Int):=by omega
     have hk1i:(i:Int)-1=(k1:Int):=by omega
     have hk1m':(k1:Int)<(m:Int):=by omega
     have hwr:IntKind.i64.wrap ((i:Int)-1)=(k1:Int):=by rw [hk1i];exact IntWalk.i64_in _ (by omega)
     obtain ⟨p0,p1,f0,f1⟩:=Kr HP2.out;obtain ⟨hP3,hE4,hG3⟩:=Zy HP2.out hE3 (by omega) (I o.num) (I o.den);have HP3:=hid hP3;have HE4:=hid hE4;clear hP3 hE4 hG3 ho hk1 hk1i;go_wp2_with fail;go_meet;rw [hd.out];exact ⟨HP3,HE4.out⟩
   case rest =>
    obtain ⟨hP,hEx⟩:=hcut;generalize wc=Z at *;clear HP2 hE3;obtain ⟨low,hlow⟩ : ∃low,low=Qf O i:=⟨_,rfl⟩
    rw [<-hlow] at hP;have hEZ:=hEY.trans hEx;obtain ⟨x0,x1⟩:=HC.out i hin;obtain ⟨ci,hci⟩ : ∃ci,ci=l.getD i 0:=⟨_,rfl⟩
    rw [<-hci] at x0 x1;have x0:=hEZ.cell x0;have x1:=hEZ.cell x1;have o0:=hEx.cell o0;have o1:=hEx.cell o1;have hci':ci=c i:=by rw [hci,Hlc.out i hin]
    have hciS:SmQ ci:=by rw [hci'];exact (Hcn.out i hin).smQ (by omega)
    have hlowN:NdQ 1000 low:=by rw [hlow];exact Hoff.out i
    have H1N:NdQ 1 r1:=by rw [Hr1.out];exact NdQ.one (by omega)
    have hl1:NdQ 2000 (low+r1):=(hlowN.add (H1N)).mono (by omega);have HS:=hid (show qE O c i=0 ↔ ¬ci<low/\ci<low+r1 by rw [hci',hlow,Hr1.out];exact Kho O c i);have HC1:=hid (λW (hW:Ext Z W)=>JQ hciS (hlowN.smQ (by omega)) (w:=W) (HL.out.ext (hEZ.trans hW)));have HAd:=hid (λW (hW:Ext Z W)=>KiA (hlowN.smQ (by omega)) (NdQ.smQ (H1N) (by omega)) (w:=W) (HL.out.ext (hEZ.trans hW)));have HC2:=hid (λW (hW:Ext Z W)=>JQ hciS (hl1.smQ (by omega)) (w:=W) (HL.out.ext (hEZ.trans hW)));have hz1:=Kgv ci low;have hz2:=Kgv ci (low+r1);obtain ⟨z1,hz1q⟩ : ∃z1,z1=Kh1 ci low:=⟨_,rfl⟩
    obtain ⟨z2,hz2q⟩ : ∃z2,z2=Kh1 ci (low+r1):=⟨_,rfl⟩
    rw [<-hz1q] at HC1 hz1;rw [<-hz2q] at HC2 hz2;obtain ⟨p0,p1,_,_⟩:=Kr hP.out;clear hz1q hz2q hlow hci hci' hciS hlowN hl1
    by_cases h1:ci<low
    ·have hd1:decide (z1<0)=true:=decide_eq_true (hz1.2 h1);have hno:=hid (show ¬∀j,j<n->qE O c j=0 from λhh=>(HS.out.1 (hh i hin)).1 h1);clear HS hz1 hz2 h1 HAd HC2 hQ;go_wp2_with fail;have d0:Ext Z Z.drew:=(Ext.refl Z).drew;refine Kf (S:=λW=>Ext Z W) 17 (by kernel_rfl) (by simp) ?_;intro inv;generalize Z.drew=Zd at *;refine tkS (i:=0) (v := .slice (some ⟨gc,oc,none⟩) n cc) rfl d0 inv ?_;intro inv;go_simp;refine tkS (i:=1) (v := .int .i64 i) rfl d0 inv ?_;intro inv;go_simp;refine tkS (i:=2) (v := .pointer (some ⟨gc,oc+i*2,none⟩)) rfl d0 inv ?_;intro inv;go_simp;refine tkA (i:=3) (v:=RV ci) rfl (.inl ⟨by rfl,λW hW=>by have y0:=hW.cell x0;have y1:=hW.cell x1;go_simp⟩) d0 inv ?_;intro inv;go_simp;refine tkA (i:=4) (v:=RV low) rfl (.inl ⟨by rfl,λW hW=>by have y0:=hW.cell p0;have y1:=hW.cell p1;go_simp⟩) d0 inv ?_;intro inv;go_simp;refine Ke (i:=5) rfl (by kernel_rfl) inv (λinv K0 hK0 => ?_);go_simp;refine (HC1.out _ d0).mono ?_;rintro e V3 ⟨rfl,hGc⟩;have d1:=d0.trans hGc;refine hK0 _ _ d1 ?_;clear hK0 d0 hGc;refine tkS (i:=6) (v := .bool true) rfl d1 inv ?_;intro inv;go_simp;refine tkS (i:=7) (v := .bool true) rfl d1 inv ?_;intro inv;go_simp;refine K7 (i:=8) (v:=undef) rfl (by kernel_rfl) (λ_ _ _ h=>h) (.inr ⟨by rfl,rfl⟩) d1 inv ?_;intro inv;go_simp;refine K7 (i:=9) (v:=undef) rfl (by kernel_rfl) (λ_ _ _ h=>h) (.inr ⟨by rfl,rfl⟩) d1 inv ?_;intro inv;go_simp
     refine K7 (i:=10) (v:=undef) rfl (by kernel_rfl) (λ_ _ _ h=>h) (.inr ⟨by rfl,rfl⟩) d1 inv ?_;intro inv;go_simp;refine K7 (i:=11) (v:=undef) rfl (by kernel_rfl) (λ_ _ _ h=>h) (.inr ⟨by rfl,rfl⟩) d1 inv ?_;intro inv;go_simp;refine K7 (i:=12) (v:=undef) rfl (by kernel_rfl) (λ_ _ _ h=>h) (.inr ⟨by rfl,rfl⟩) d1 inv ?_;intro inv;go_simp;refine K7 (i:=13) (v:=undef) rfl (by kernel_rfl) (λ_ _ _ h=>h) (.inr ⟨by rfl,rfl⟩) d1 inv ?_;intro inv;go_simp;refine K7 (i:=14) (v:=undef) rfl (by kernel_rfl) (λ_ _ _ h=>h) (.inr ⟨by rfl,rfl⟩) d1 inv ?_;intro inv;go_simp;refine K7 (i:=15) (v:=undef) rfl (by kernel_rfl) (λ_ _ _ h=>h) (.inr ⟨by rfl,rfl⟩) d1 inv ?_;intro inv;go_simp;refine K7 (i:=16) (v:=undef) rfl (by kernel_rfl) (λ_ _ _ h=>h) (.inr ⟨by rfl,rfl⟩) d1 inv ?_;intro inv;go_simp;refine Kg (by kernel_rfl) ?_;have hres:=hid (show ∃bv,Ending.returned (.bool false) = .returned (.bool bv)/\(bv=true ↔ ∀j,j<n->qE O c j=0)/\Ext w V3 from ⟨false,rfl,⟨λh=>absurd h (by decide),λh=>absurd h hno.out⟩,hEZ.trans d1⟩);clear hno d1 hP x0 x1 p0 p1 o0 o1 hEx hEZ;go_wp2_with fail;go_ret;exact hres.out
    ·have hd1:decide (z1<0)=false:=decide_eq_false (λh=>h1 (hz1.1 h))
     by_cases h2:ci<low+r1
     ·have hd2:decide (0<=z2)=false:=decide_eq_false (λh=>by have:=hz2.2 h2;omega)
      have HQ2:=hid (show ∀j,j<i+1->qE O c j=0 from λj hj=>by
       rcases Nat.lt_or_ge j i with h3 | h3
       ·exact hQ.out j h3
       ·obtain rfl:j=i:=by omega
        exact HS.out.2 ⟨h1,h2⟩)
      clear HS hz1 hz2 h1 h2 hQ;go_wp2_with fail;have d0:Ext Z Z.drew:=(Ext.refl Z).drew;refine Kf (S:=λW=>Ext Z W) 17 (by kernel_rfl) (by simp) ?_;intro inv;generalize Z.drew=Zd at *;refine tkS (i:=0) (v := .slice (some ⟨gc,oc,none⟩) n cc) rfl d0 inv ?_;intro inv;go_simp;refine tkS (i:=1) (v := .int .i64 i) rfl d0 inv ?_;intro inv;go_simp;refine tkS (i:=2) (v := .pointer (some ⟨gc,oc+i*2,none⟩)) rfl d0 inv ?_;intro inv;go_simp;refine tkA (i:=3) (v:=RV ci) rfl (.inl ⟨by rfl,λW hW=>by have y0:=hW.cell x0;have y1:=hW.cell x1;go_simp⟩) d0 inv ?_;intro inv;go_simp;refine tkA (i:=4) (v:=RV low) rfl (.inl ⟨by rfl,λW hW=>by have y0:=hW.cell p0;have y1:=hW.cell p1;go_simp⟩) d0 inv ?_;intro inv;go_simp;refine Ke (i:=5) rfl (by kernel_rfl) inv (λinv K0 hK0 => ?_);go_simp;refine (HC1.out _ d0).mono ?_;rintro e V3 ⟨rfl,hGc⟩;have d1:=d0.trans hGc;refine hK0 _ _ d1 ?_;clear hK0 d0 hGc;refine tkS (i:=6) (v := .bool false) rfl d1 inv ?_;intro inv;go_simp;refine tkS (i:=7) (v := .bool false) rfl d1 inv ?_;intro inv;go_simp;refine tkS (i:=8) (v := .slice (some ⟨gc,oc,none⟩) n cc) rfl d1 inv ?_;intro inv;go_simp;refine tkS (i:=9) (v := .int .i64 i) rfl d1 inv ?_;intro inv;go_simp;refine tkS (i:=10) (v := .pointer (some ⟨gc,oc+i*2,none⟩)) rfl d1 inv ?_;intro inv;go_simp;refine tkA (i:=11) (v:=RV ci) rfl (.inl ⟨by rfl,λW hW=>by have y0:=hW.cell x0;have y1:=hW.cell x1;go_simp⟩) d1 inv ?_;intro inv;go_simp
      refine tkA (i:=12) (v:=RV low) rfl (.inl ⟨by rfl,λW hW=>by have y0:=hW.cell p0;have y1:=hW.cell p1;go_simp⟩) d1 inv ?_;intro inv;go_simp;refine tkA (i:=13) (v:=RV r1) rfl (.inl ⟨by rfl,λW hW=>by have y0:=hW.cell o0;have y1:=hW.cell o1;go_simp⟩) d1 inv ?_;intro inv;go_simp;refine Ke (i:=14) rfl (by kernel_rfl) inv (λinv K0 hK0 => ?_);go_simp;refine (HAd.out _ d1).mono ?_;rintro e V4 ⟨rfl,hGc⟩;have d2:=d1.trans hGc;refine hK0 _ _ d2 ?_;clear hK0 d1 hGc;refine Ke (i:=15) rfl (by kernel_rfl) inv (λinv K0 hK0 => ?_);go_simp;refine (HC2.out _ d2).mono ?_;rintro e V5 ⟨rfl,hGc⟩;have d3:=d2.trans hGc;refine hK0 _ _ d3 ?_;clear hK0 d2 hGc;refine tkS (i:=16) (v := .bool false) rfl d3 inv ?_;intro inv;go_simp;refine Kg (by kernel_rfl) ?_;have hEn:=hEx.trans d3;clear HAd HC1 HC2 d3 hP x0 x1 p0 p1 o0 o1 hEx hEZ;go_wp2_with fail;go_roundw
      case rel=>exact ⟨i+1,by omega,by go_num,HQ2,hEn⟩
      case measure=>simp [intOf]<;>omega
     ·have hd2:decide (0<=z2)=true:=decide_eq_true (by
       rcases Int.lt_or_le z2 0 with h3 | h3
       ·exact absurd (hz2.1 h3) h2
       ·exact h3)
      have hno:=hid (show ¬∀j,j<n->qE O c j=0 from λhh=>h2 (HS.out.1 (hh i hin)).2);clear HS hz1 hz2 h1 h2 hQ;go_wp2_with fail;have d0:Ext Z Z.drew:=(Ext.refl Z).drew;refine Kf (S:=λW=>Ext Z W) 17 (by kernel_rfl) (by simp) ?_;intro inv;generalize Z.drew=Zd at *;refine tkS (i:=0) (v := .slice (some ⟨gc,oc,none⟩) n cc) rfl d0 inv ?_;intro inv;go_simp;refine tkS (i:=1) (v := .int .i64 i) rfl d0 inv ?_;intro inv;go_simp;refine tkS (i:=2) (v := .pointer (some ⟨gc,oc+i*2,none⟩)) rfl d0 inv ?_;intro inv;go_simp;refine tkA (i:=3) (v:=RV ci) rfl (.inl ⟨by rfl,λW hW=>by have y0:=hW.cell x0;have y1:=hW.cell x1;go_simp⟩) d0 inv ?_;intro inv;go_simp;refine tkA (i:=4) (v:=RV low) rfl (.inl ⟨by rfl,λW hW=>by have y0:=hW.cell p0;have y1:=hW.cell p1;go_simp⟩) d0 inv ?_;intro inv;go_simp;refine Ke (i:=5) rfl (by kernel_rfl) inv (λinv K0 hK0 => ?_);go_simp;refine (HC1.out _ d0).mono ?_;rintro e V3 ⟨rfl,hGc⟩;have d1:=d0.trans hGc;refine hK0 _ _ d1 ?_;clear hK0 d0 hGc;refine tkS (i:=6) (v := .bool false) rfl d1 inv ?_;intro inv;go_simp;refine tkS (i:=7) (v := .bool false) rfl d1 inv ?_;intro inv;go_simp;refine tkS (i:=8) (v := .slice (some ⟨gc,oc,none⟩) n cc) rfl d1 inv ?_;intro inv;go_simp;refine tkS (i:=9) (v := .int .i64 i) rfl d1 inv ?_;intro inv;go_simp;refine tkS (i:=10) (v := .pointer (some ⟨gc,oc+i*2,none⟩)) rfl d1 inv ?_;intro inv;go_simp
      refine tkA (i:=11) (v:=RV ci) rfl (.inl ⟨by rfl,λW hW=>by have y0:=hW.cell x0;have y1:=hW.cell x1;go_simp⟩) d1 inv ?_;intro inv;go_simp;refine tkA (i:=12) (v:=RV low) rfl (.inl ⟨by rfl,λW hW=>by have y0:=hW.cell p0;have y1:=hW.cell p1;go_simp⟩) d1 inv ?_;intro inv;go_simp;refine tkA (i:=13) (v:=RV r1) rfl (.inl ⟨by rfl,λW hW=>by have y0:=hW.cell o0;have y1:=hW.cell o1;go_simp⟩) d1 inv ?_;intro inv;go_simp;refine Ke (i:=14) rfl (by kernel_rfl) inv (λinv K0 hK0 => ?_);go_simp;refine (HAd.out _ d1).mono ?_;rintro e V4 ⟨rfl,hGc⟩;have d2:=d1.trans hGc;refine hK0 _ _ d2 ?_;clear hK0 d1 hGc;refine Ke (i:=15) rfl (by kernel_rfl) inv (λinv K0 hK0 => ?_);go_simp;refine (HC2.out _ d2).mono ?_;rintro e V5 ⟨rfl,hGc⟩;have d3:=d2.trans hGc;refine hK0 _ _ d3 ?_;clear hK0 d2 hGc;refine tkS (i:=16) (v := .bool true) rfl d3 inv ?_;intro inv;go_simp;refine Kg (by kernel_rfl) ?_;have hres:=hid (show ∃bv,Ending.returned (.bool false) = .returned (.bool bv)/\(bv=true ↔ ∀j,j<n->qE O c j=0)/\Ext w V5 from ⟨false,rfl,⟨λh=>absurd h (by decide),λh=>absurd h hno.out⟩,hEZ.trans d3⟩);clear hno d3 hP x0 x1 p0 p1 o0 o1 hEx hEZ HAd HC1 HC2;go_wp2_with fail;go_ret;exact hres.out
  ·obtain rfl:n=i:=by omega
   have hres:=hid (show ∃bv,Ending.returned (.bool true) = .returned (.bool bv)/\(bv=true ↔ ∀j,j<n->qE O c j=0)/\Ext w V from ⟨true,rfl,⟨λ_=>hQ.out,λ_=>rfl⟩,hEV⟩);clear hQ;go_wp2_with fail;go_ret;exact hres.out
theorem KjI {a t A T:Rat} (h1 : -A<=a) (h2:a<=A) (h3 : -T<=t) (h4:t<=T) : -(A*T)<=a*t/\a*t<=A*T:=by
 have p1:0<=(A-a)*(T-t):=Rat.mul_nonneg (by grind) (by grind);have p2:0<=(A+a)*(T+t):=Rat.mul_nonneg (by grind) (by grind);have p3:0<=(A-a)*(T+t):=Rat.mul_nonneg (by grind) (by grind);have p4:0<=(A+a)*(T-t):=Rat.mul_nonneg (by grind) (by grind);constructor<;>grind
theorem Jr {r B:Rat} {D:Int} (hD:D≠0) (h1 : -B<=r*((D:Int):Rat)) (h2:r*((D:Int):Rat)<=B) : -B<=r/\r<=B:=by
 have key : ∀d:Rat,1<=d -> -B<=r*d->r*d<=B -> -B<=r/\r<=B:=λd hd k1 k2=>by
  constructor
  ·refine Rat.not_lt.1 λhlt => ?_
   have hB:0<=B:=by grind
   have p:0<=(-B-r)*(d-1):=Rat.mul_nonneg (by grind) (by grind);have p2:0<=B*(d-1):=Rat.mul_nonneg hB (by grind)
   grind
  ·refine Rat.not_lt.1 λhlt => ?_
   have hB:0<=B:=by grind
   have p:0<=(r-B)*(d-1):=Rat.mul_nonneg (by grind) (by grind);have p2:0<=B*(d-1):=Rat.mul_nonneg hB (by grind)
   grind
 rcases Int.lt_or_gt_of_ne hD with h | h
 ·have h3:((D:Int):Rat)<=((-1:Int):Rat):=Rat.intCast_le_intCast.2 (by omega);have e1:((-1:Int):Rat) = -1:=rfl;rw [e1] at h3;exact key (-((D:Int):Rat)) (by grind) (by grind) (by grind)
 ·have h3:((1:Int):Rat)<=((D:Int):Rat):=Rat.intCast_le_intCast.2 (by omega);have e1:((1:Int):Rat)=1:=rfl;rw [e1] at h3;exact key ((D:Int):Rat) h3 h1 h2
theorem KfU {x:List Int} (h : ∀z∈x,z.natAbs<=1000000) (i:Nat) : -1000000<=x.getD i 0/\x.getD i 0<=1000000:=by
 by_cases hi:i<x.length
 ·rw [Ka hi];have:=h _ (List.getElem_mem hi);omega
 ·rw [List.getD_eq_getElem?_getD,List.getElem?_eq_none (by omega)];show (-1000000:Int)<=0/\(0:Int)<=1000000;omega
theorem KoQ {n:Nat} {M:Mx} {v:List Int} (h:BkM n M v) {x:Nat->Int} {c:Nat->Rat} (hx : ∀i,-1000000<=x i/\x i<=1000000) (hc:CoV n M (λi=>((x i:Int):Rat)) c) : ∀j,j<n -> -257000000<=c j/\c j<=257000000:=by
 have hq : ∀i,-1000000<=((x i:Int):Rat)/\((x i:Int):Rat)<=1000000:=λi=>by
  have h1:((-1000000:Int):Rat)<=((x i:Int):Rat):=Rat.intCast_le_intCast.2 (hx i).1;have h2:((x i:Int):Rat)<=((1000000:Int):Rat):=Rat.intCast_le_intCast.2 (hx i).2;exact ⟨h1,h2⟩
 have hz:=h.nz
 have hp : ∀i j k,-8000000<=((eM M i j:Int):Rat)*((x k:Int):Rat)/\((eM M i j:Int):Rat)*((x k:Int):Rat)<=8000000:=λi j k=>by
  have:=KjI (h.el i j).1 (h.el i j).2 (hq k).1 (hq k).2;constructor<;>grind
 rcases h.hn with rfl | rfl
 ·obtain ⟨e0,e1⟩:=hc.e2;rw [KeF,if_pos rfl] at hz;obtain ⟨k1,k2⟩:=Jr (r:=c 1) (B:=1000000) (D:=eM M 0 1) (by omega) (by have:=(hq 1).1;grind) (by have:=(hq 1).2;grind);have hq0:=hq 0;have h3:=KjI (h.el 0 0).1 (h.el 0 0).2 k1 k2;intro j hj
  rcases (show j=0\/j=1 by omega) with rfl | rfl<;>(constructor<;>grind)
 ·obtain ⟨e0,e1,e2⟩:=hc.e3;rw [(KeG M).1] at hz
  have f1:c 1*((eM M 0 1*eM M 1 2-eM M 0 2*eM M 1 1:Int):Rat)=((eM M 1 2:Int):Rat)*((x 1:Int):Rat)-((eM M 1 1:Int):Rat)*((x 2:Int):Rat):=by
   rw [Rat.intCast_sub,Rat.intCast_mul,Rat.intCast_mul,<-e1,<-e2];grind
  have f2:c 2*((eM M 0 1*eM M 1 2-eM M 0 2*eM M 1 1:Int):Rat)=((eM M 0 1:Int):Rat)*((x 2:Int):Rat)-((eM M 0 2:Int):Rat)*((x 1:Int):Rat):=by
   rw [Rat.intCast_sub,Rat.intCast_mul,Rat.intCast_mul,<-e1,<-e2];grind
  have a1:=hp 1 2 1;have a2:=hp 1 1 2;have a3:=hp 0 1 2;have a4:=hp 0 2 1;obtain ⟨k1,k2⟩:=Jr (r:=c 1) (B:=16000000) hz (by rw [f1];grind) (by rw [f1];grind);obtain ⟨k3,k4⟩:=Jr (r:=c 2) (B:=16000000) hz (by rw [f2];grind) (by rw [f2];grind);have hq0:=hq 0;have h3:=KjI (h.el 0 0).1 (h.el 0 0).2 k1 k2;have h4:=KjI (h.el 1 0).1 (h.el 1 0).2 k3 k4;intro j hj
  rcases (show j=0\/j=1\/j=2 by omega) with rfl | rfl | rfl<;>(constructor<;>grind)
theorem Ko3 {O:List Rat} {n:Nat} {c:Nat->Rat} (hO : ∀j,-12<=Qf O j/\Qf O j<=12) (hc : ∀j,j<n -> -257000000<=c j/\c j<=257000000) {j:Nat} (hj:j<n) : -257000013<=qE O c j/\qE O c j<=257000013:=by
 obtain ⟨h1,h2⟩:=(XZ (c j-Qf O j) (qE O c j)).1 rfl;have h3:=hO j;have h4:=hc j hj
 have h5:((-257000013:Int):Rat)<=((qE O c j:Int):Rat):=by
  have e:((-257000013:Int):Rat) = -257000013:=rfl;rw [e];grind
 have h6:((qE O c j:Int):Rat)<=((257000013:Int):Rat):=by
  have e:((257000013:Int):Rat)=257000013:=rfl;rw [e];grind
 exact ⟨Rat.intCast_le_intCast.1 h5,Rat.intCast_le_intCast.1 h6⟩
theorem KoR {n:Nat} {M:Mx} {v x:List Int} (h:BkM n M v) (hx:x.length=n) (hb : ∀z∈x,z.natAbs<=1000000) {c:Nat->Rat} (hc:CoV n M (λi=>((x.getD i 0:Int):Rat)) c) {j:Nat} (hj:j<n):NdQ 100 (c j):=by
 obtain ⟨h0,h1⟩:=KlW h hx hc;have hn0:0<n:=by omega
 have hB:=Kdd hn0 h.bd;have b1:=KfN (n:=n) hB;have b2:=KfN (n:=n) (KiH hB hb j);rw [<-h1 j hj];exact NdQ.mk (Kcv h0) (Nat.le_trans (Ku (E:=63) (by omega)) (by omega)) (Nat.le_trans (Ku (E:=63) (by omega)) (by omega))
theorem KpS {n:Nat} {M:Mx} {v x:List Int} (hB:BkM n M v) {q:Nat->Int} {k j i:Nat} (hx : ∀z∈x,z.natAbs<=1000000) (hq : ∀{t},t<n -> -257000013<=q t/\q t<=257000013) (hk:k<n) : -100000000000<=(rdT x (bsM n M) q n k j).getD i 0/\(rdT x (bsM n M) q n k j).getD i 0<=100000000000:=by
 have hn:=hB.hn
 have hs : ∀m,m<=n->(KE (λt=>q t*eM (bsM n M) t i) m).natAbs<=m*3000000000:=λm=>by
  induction m with
  | zero=>intro _;show (0:Int).natAbs<=_;simp
  | succ m ih =>
   intro hm;have h1:=ih (by omega);have h2:=hq (t:=m) (by omega)
   have h3:(eM (bsM n M) m i).natAbs<=8:=by
    match m with
    | 0=>rw [ZM M (by omega)];split<;>simp
    | m+1 =>
     rw [JE];have a1:(-8:Int)<=eM M m i:=Rat.intCast_le_intCast.1 (hB.el m i).1;have a2:eM M m i<=(8:Int):=Rat.intCast_le_intCast.1 (hB.el m i).2;omega
   have h4:(q m*eM (bsM n M) m i).natAbs<=257000013*8:=by rw [Int.natAbs_mul];exact Nat.mul_le_mul (by omega) h3
   show (KE (λt=>q t*eM (bsM n M) t i) m+q m*eM (bsM n M) m i).natAbs<=_;omega
 by_cases h:i<n
 ·rw [YZ h];have h2:=KfU hx i;have h4:(if i<j then k+1 else k)<=n:=by split<;>omega
  have h3:=hs _ h4;generalize (if i<j then k+1 else k)=m at *;have h5:m*3000000000<=3*3000000000:=Nat.mul_le_mul_right _ (by omega);omega
 ·rw [List.getD_eq_getElem?_getD,List.getElem?_eq_none (by simp;omega)];show (-100000000000:Int)<=0/\(0:Int)<=100000000000;omega
theorem KkW {x:List Int} {n:Nat} {M:Mx} {q:Nat->Int} (hn:0<n):(rdT x (bsM n M) q n 0 0).set 0 ((rdT x (bsM n M) q n 0 0).getD 0 0-q 0)=rdT x (bsM n M) q n 1 0:=by
 refine KgS (by simp) λt ht => ?_
 have htn:t<n:=by simpa using ht
 rw [YZ htn,Ka ht,List.getElem_set]
 by_cases e:0=t
 ·subst e;rw [if_pos rfl,YZ hn,if_neg (by omega),if_neg (by omega)];show x.getD 0 0-0-q 0=x.getD 0 0-(0+q 0*eM (bsM n M) 0 0);rw [ZM M hn,if_pos rfl];omega
 ·rw [if_neg e,<-Ka (show t<(rdT x (bsM n M) q n 0 0).length by simpa using htn),YZ htn,if_neg (by omega),if_neg (by omega)];show x.getD t 0-0=x.getD t 0-(0+q 0*eM (bsM n M) 0 t);rw [ZM M hn,if_neg (λh=>e h.symm)];omega
end
end Go.Proofs.YtmhfccigejcphaaGreatDoor
