/- Part 6 of the proof of the claim: contracts of the functions that it reaches, and plain laws; no condition. -/
import Derived.Test.YtdmaofimeknkbaaGreatDoorQ05
import Derived.Test.YtdmaofimeknkbaaGreatDoorQ03
set_option maxRecDepth 100000
set_option maxHeartbeats 20000000
namespace Go.Proofs.YtdmaofimeknkbaaGreatDoor
section
open Go.RowKit
open Lib (hid)
theorem Sl.grown {w w':World} {ga:Option Addr} {gb go r:Nat} {xs:List Value} (h:Sl w ga gb go xs) (hg:w.grownBy w' (some r)) (hne:gb≠r):Sl w' ga gb go xs :=
 ⟨h.addr,λi x hx=>by
  have h0:=h.cell i x hx
  rw [World.cell?_of_block (hg.block gb (World.block_lt_of_cell? _ _ h0) (by simpa using hne))];exact h0⟩
theorem Sl.drewN {w:World} {ga:Option Addr} {gb go:Nat} {xs:List Value} (h:Sl w ga gb go xs) (n:Nat):Sl (w.drewN n) ga gb go xs:=h.ext ((Ext.refl w).drewN n)
theorem KG.drewN {B:Nat} {w:World} {g cap:Nat} {p:List Nat} (h:KG B w g cap p) (n:Nat):KG B (w.drewN n) g cap p:=h.ext ((Ext.refl w).drewN n)
theorem KG.other {B:Nat} {w w':World} {g cap r:Nat} {p:List Nat} (h:KG B w g cap p) (hg:w.grownBy w' (some r)) (hne:g≠r):KG B w' g cap p :=
 World.ownsRow.kept h hg (.inr (by simp [Value.ownBlock,hne]))
theorem Zz {u v:Nat} (h:u<=v):(pc u).length<=(pc v).length:=by
 refine Nat.le_of_not_lt λhc => ?_
 have:=Kb8 hc;omega
theorem Kne {v:Nat} (hv:v≠0) (h:(pc v).length-1<(pc v).length):1<=(pc v)[(pc v).length-1]:=by
 rw [J5];have h1:=XW hv;have h2:=YD v;obtain ⟨k,hk⟩ : ∃k,(pc v).length=k+1:=⟨(pc v).length-1,by omega⟩
 rw [hk] at h1 h2 ⊢;rw [show k+1-1=k from rfl] at *;rw [Nat.pow_succ] at h2;rw [Nat.mod_eq_of_lt (Nat.div_lt_of_lt_mul h2)];exact (Nat.le_div_iff_mul_le (Nat.pow_pos (by omega))).2 (by omega)
theorem Kpa (p:List Nat) (d:Nat):us p++[.int .u64 (d:Nat)]=us (p++[d]):=by simp [us]
theorem Knb {T:TypeId} {B:Nat} {w:World} {v:Value} {n:Nat} {xs:List Value} (h:w.ownsRow B T 1 v n xs) (hn:0<n) : ∃g cap,v=slv g n cap/\Kd T B w g cap xs:=by
 have hl:xs.length=n:=by have:=h.1;omega
 rcases h.2 with ⟨_,h0⟩ | ⟨g,cap,cur,hv,r⟩
 ·omega
 ·subst hl;subst hv;exact ⟨g,cap,rfl,h⟩
theorem Koy {gg r y1 y2 x2 hi q:Nat} (h:gg*y1+r=hi) (hlow:q*(y1*1000000000+y2)<=hi*1000000000+x2) (hc:r*1000000000+x2<gg*y2):q<=gg-1/\1<=gg:=by
 have h1:gg*(y1*1000000000+y2)=gg*y1*1000000000+gg*y2:=by rw [Nat.mul_add,Nat.mul_assoc]
 have h2:q<gg:=by
  refine Nat.lt_of_not_le λhle => ?_
  have:=Nat.mul_le_mul_right (y1*1000000000+y2) hle;generalize gg*y2=z at *;generalize gg*y1=y at *;omega
 omega
theorem Kow {gg r y1 y2 x2 hi:Nat} (h:gg*y1+r=hi) (hc:gg*y2<=r*1000000000+x2):gg*(y1*1000000000+y2)<=hi*1000000000+x2:=by
 have h1:gg*(y1*1000000000+y2)=gg*y1*1000000000+gg*y2:=by rw [Nat.mul_add,Nat.mul_assoc]
 rw [h1];generalize gg*y2=z at *;generalize gg*y1=y at *;omega
theorem Khm {gg r y1 hi:Nat} (h:gg*y1+r=hi) (hg:1<=gg):(gg-1)*y1+(r+y1)=hi:=by
 obtain ⟨h0,rfl⟩ : ∃h0,gg=h0+1:=⟨gg-1,by omega⟩
 rw [Nat.add_mul] at h;rw [show h0+1-1=h0 from rfl];omega
theorem KmU {a a' V P q:Nat} (hq:q=a/(V*P)) (hVP:0<V*P) (h:a'+q*(V*P)=a):a'<V*P:=by
 have hdm:=Nat.div_add_mod a (V*P);have hlt:=Nat.mod_lt a hVP;rw [<-hq,Nat.mul_comm] at hdm;omega
theorem KmS {U V u v f a o:Nat} (hU:U=u*f) (hV:V=v*f) (hf:1<=f) (hv:v≠0) (ha:a<V) (h:a+o*V=U):o=u/v/\a/f=u%v:=by
 have hdm:=Nat.div_add_mod u v;have hlt:=Nat.mod_lt u (show 0<v by omega)
 have h1:U=(u%v)*f+(u/v)*V:=by
  rw [hU,hV,<-Nat.mul_assoc,<-Nat.add_mul,Nat.add_comm,Nat.mul_comm (u/v),hdm]
 have h2:(u%v)*f<V:=by rw [hV];exact Nat.mul_lt_mul_of_pos_right hlt (by omega)
 have e1:o=u/v:=by
  have p1:U/V=o:=by rw [<-h,Nat.add_mul_div_right _ _ (by omega),Nat.div_eq_of_lt ha];omega
  have p2:U/V=u/v:=by rw [h1,Nat.add_mul_div_right _ _ (by omega),Nat.div_eq_of_lt h2];omega
  omega
 refine ⟨e1,?_⟩;rw [e1] at h;have:a=(u%v)*f:=by omega
 rw [this,Nat.mul_div_cancel _ (by omega)]
theorem Kiv {w:World} {ga gb:Option Addr} {b1 o1 c1 b2 o2 c2 u v:Nat} (h1:Sl w ga b1 o1 (us (pc u))) (h2:Sl w gb b2 o2 (us (pc v))) (l1:(pc u).length<=LIM) (l2:(pc v).length<=LIM) (hvu:v<=u) (hv2:2<=(pc v).length) :
  Calls Tryz.prog 148 #[.slice ga (pc u).length c1,.slice gb (pc v).length c2] w λe w' => ∃x y,e = .returned (.tuple #[x,y])/\Kkq w.heap.size w' x (u/v)/\Kkq w.heap.size w' y (u%v)/\Ext w w':=by
 obtain ⟨i0,hi,hz0,hz1,hz2⟩:=info_parts Tryz.infoU64;have hv0:v≠0:=λe=>by subst e;rw [Qz] at hv2;cases hv2
 have hq1:(pc v).length-1<(pc v).length:=by omega
 obtain rfl:=h2.addr (by rw [Qa];omega);obtain ⟨t,ht⟩ : ∃t,t=(pc v)[(pc v).length-1]:=⟨_,rfl⟩
 have ht1:1<=t:=by rw [ht];exact Kne hv0 hq1
 have ht9:t<1000000000:=by rw [ht];exact K9 (KL v) hq1
 have hcell:w.cell? ⟨b2,o2+((pc v).length-1),none⟩=some (.int .u64 (t:Nat)):=by rw [ht];exact h2.cell _ _ (ZY hq1)
 obtain ⟨f,hf⟩ : ∃f,f=1000000000/(t+1):=⟨_,rfl⟩
 have hf1:1<=f:=by rw [hf];exact (Nat.le_div_iff_mul_le (by omega)).2 (by omega)
 have hf9:f<1000000000:=by
  rw [hf];refine Nat.div_lt_of_lt_mul ?_
  omega
 have hfz:(1000000000:Int)/((t:Int)+1)=(f:Int):=by rw [hf];simp
 have Hs1:=hid (Kel (c1:=c1) h1 (KL u) l1 (by omega) hf9);have H2:=hid h2;have L2:=hid l2;rw [ZO] at Hs1;have m1:(pc u).length<=1000000000000:=l1;have m2:(pc v).length<=1000000000000:=l2;obtain ⟨U,hU⟩ : ∃U,U=u*f:=⟨_,rfl⟩
 obtain ⟨V,hV⟩ : ∃V,V=v*f:=⟨_,rfl⟩
 have hlU:(pc u).length<=(pc U).length:=Zz (by rw [hU];exact Nat.le_mul_of_pos_right _ hf1);have hlV:(pc v).length<=(pc V).length:=Zz (by rw [hV];exact Nat.le_mul_of_pos_right _ hf1);have hlVU:(pc V).length<=(pc U).length:=Zz (by rw [hU,hV];exact Nat.mul_le_mul_right _ hvu)
 have hlU2:(pc U).length<=(pc u).length+1:=by
  refine Kbr ?_;rw [hU,Nat.pow_succ];exact Nat.mul_lt_mul'' (YD u) hf9
 have HU:=hid hU;have HV:=hid hV;rw [<-hU] at Hs1;have Hvu:=hid hvu;clear h1 h2 l1 l2 ht hf hU hV hvu hv0
 go_enter Tryz.func148,Tryz.ntmps148
 go_wp2_with fail;refine Hs1.out.mono ?_;rintro e w1 ⟨x1,rfl,⟨g1,cap1,rfl,hO1⟩,hE1⟩;have hOw:=hO1.v.row (Qa _);clear Hs1;go_wp2_with (at_builtin;refine wpList_append_own _ rfl _ _ 200 rfl w.heap.size 191 i0 (.int .u64 0) 1 8 Tryz.underlying200 hi hz0 hz1 hz2 rfl (by decide) _ _ _ rfl (World.ownsRow.alloc hOw _) ⟨w1.heap.size,0,none⟩ 1 1 [.int .u64 0] rfl rfl (cell_one_new _ _ _) (YC _ _) (by unfold maxLen;omega) (by omega) (by have:=hE1.size;simp;omega) ?_;intro xa w2 hown2 hgrow2 hnil)
 clear hnil;obtain ⟨g2,cap2,hxa,hOa⟩:=Knb hown2 (by omega);have hE2:Ext w w2:=Kb (hE1.alloc _) hgrow2 hO1.lt.1;subst hxa
 have hOA:KG w.heap.size w2 g2 cap2 (pc U++[0]):=by
  have:Kd 191 w.heap.size w2 g2 cap2 (us (pc U++[0])):=by rw [<-Kpa];exact hOa
  exact this.u
 have hg2:=hOA.lt;clear hown2 hOa hgrow2 hOw hO1 hE1;have Hs2:=hid (Kel (c1:=c2) (H2.out.ext hE2) (KL v) L2.out (by omega) hf9);rw [ZO,<-HV.out] at Hs2;refine Hs2.out.mono ?_;rintro e w3 ⟨x2,rfl,⟨g3,cap3,rfl,hOB⟩,hE3⟩;clear Hs2 H2 L2 hcell;have hg3:=hOB.lt;have hOA3:=hOA.ext hE3;have hSB:=hOB.sl;have hE03:=hE2.trans hE3;have hne32:g3≠g2:=by omega
 clear hOA hE2 hE3;obtain ⟨n,hn⟩ : ∃n,n=(pc V).length:=⟨_,rfl⟩
 obtain ⟨la,hla⟩ : ∃la,la=(pc U).length:=⟨_,rfl⟩
 obtain ⟨K,hK⟩ : ∃K,K=la+1-n:=⟨_,rfl⟩
 rw [<-hn] at hlV hlVU ⊢;rw [<-hla] at hlVU hlU hlU2 ⊢;have hKz:(la:Int)+1-n=(K:Int):=by omega
 have hn2:2<=n:=by omega
 have Hn:=hid hn;have Hla:=hid hla;have HK:=hid hK;clear hn hla hK;go_wp2_with fail;refine wp_loop_rounds 1 ?_;rw [rounds_succ];go_wp2_with (at_make;refine wpList_make_full _ rfl _ _ 200 rfl w.heap.size 191 i0 (.int .u64 0) 1 Tryz.underlying200 hi hz0 hz1 .i64 .i64 _ _ K rfl rfl (by omega) (by omega) (by rw [hz2];omega) (by unfold maxLen;omega) (by have:=hE03.size;omega) ?_;intro w4 hown4 hgrow4)
 have hE34:=KR hgrow4;obtain ⟨g4,hg4⟩ : ∃g4,g4=w3.heap.size:=⟨_,rfl⟩
 rw [<-hg4] at hown4 ⊢
 have hO4:KG w.heap.size w4 g4 K (List.replicate K 0):=by
  unfold KG
  have e:(madeCells (Value.int .u64 0).cells (K*1)).toList=us (List.replicate K 0):=by
   rw [show (Value.int .u64 0).cells = #[.int .u64 0] from rfl,toList_madeCells_one,Nat.mul_one];simp [us]
  rw [e] at hown4;simpa using hown4
 have hne42:g4≠g2:=by have:=hOA3.lt;omega
 have hne43:g4≠g3:=by omega
 have hOA4:=hOA3.ext hE34;have hSB4:=hSB.ext hE34;have hE04:=hE03.trans hE34;have HE03:=hid hE03;clear hown4 hgrow4 hOA3 hSB hg4 hE03 hE34 hOB;have hKK:(la:Int)+1-n-1=(K:Int)-1:=by omega
 go_wp2
 go_loopw [11] (λidx wr => ∃(k:Nat) (A O:List Nat),k<=K/\idx = .int .i64 ((k:Int)-1)/\A.length=la+1/\O.length=K/\Hid (Kz A/\Kz O/\vP A<V*1000000000^k/\vP A+vP O*V=U /\ ∀j,j<k -> ∀h:j<O.length,O[j]=0)/\KG w.heap.size wr g2 cap2 A/\KG w.heap.size wr g4 K O/\Sl wr (some ⟨g3,0,none⟩) g3 0 (us (pc V))/\Ext w wr) (λidx _=>(intOf idx+1).toNat)
 case atStart =>
  refine ⟨K,pc U++[0],List.replicate K 0,Nat.le_refl _,by go_num,by simp [Hla.out],by simp,⟨?_,?_,?_,?_,?_⟩,hOA4,hO4,hSB4,hE04⟩
  ·intro d hd
   rcases List.mem_append.1 hd with h | h
   ·exact KL U d h
   ·simp at h;omega
  ·intro d hd;rw [List.mem_replicate] at hd;omega
  ·rw [ZH,ZO];simp only [vP,Nat.mul_zero,Nat.add_zero];have hV0:V≠0:=λe=>by have:=Hn.out;rw [e,Qz] at this;simp at this;omega
   have h1:=XW hV0;rw [<-Hn.out] at h1;refine Nat.lt_of_lt_of_le (YD U) ?_;rw [<-Hla.out,show la=(n-1)+K by have:=HK.out;omega,Nat.pow_add];exact Nat.mul_le_mul_right _ h1
  ·rw [ZH,ZO,Jy];simp [vP]
  ·intro j _ h;simp
 case round =>
  obtain ⟨k,A,O,hkK,rfl,hAl,hOl,Hin,hOA,hOO,hSB,hE⟩:=hrel;clear hOA4 hO4 hSB4 hE04
  rcases Nat.eq_zero_or_pos k with rfl | hk0
  ·have hv0:v≠0:=λe=>by subst e;rw [Qz] at hv2;cases hv2
   have hAV:=Hin.out.2.2.1;rw [Nat.pow_zero,Nat.mul_one] at hAV;have hkf:=KmS HU.out HV.out hf1 hv0 hAV Hin.out.2.2.2.1;have ht1:=Xg (gc:=cap2) hOA.sl (by rw [hAl];omega) hOA.cap;rw [hAl] at ht1;have htlA:tl A=pc (vP A):=Kac Hin.out.1;have htlO:tl O=pc (u/v):=by rw [Kac Hin.out.2.1,hkf.1]
   rw [htlA] at ht1;have hOA':=hOA.tl;rw [htlA] at hOA'
   have hlA:(pc (vP A)).length<=2000000000000:=by
    have:=Kcn A;rw [htlA] at this;omega
   have hOcap:=hOO.cap;have HtlO:=hid htlO;have Hkf:=hid hkf;have Ht1:=hid ht1;have HlA:=hid hlA;clear ht1 htlA htlO hkf hAV hOA hlA;go_wp2_with fail;refine Ht1.out.mono ?_;rintro e w5 ⟨rfl,hE5⟩;have hsm:=hid (KfF (c1:=cap2) (hOA'.ext hE5).sl (KL (vP A)) HlA.out (by omega) hf9);go_wp2_with fail;refine hsm.out.mono ?_;rintro e w6 ⟨y,rfl,hRy,hE6⟩;rw [ZO,Hkf.out.2] at hRy;have hOO6:=(hOO.ext hE5).ext hE6;have ht2:=Xg (gc:=K) hOO6.sl (by rw [hOl];omega) hOO6.cap;rw [hOl,HtlO.out] at ht2;have Ht2:=hid ht2;clear ht2 hsm;go_wp2_with fail;refine Ht2.out.mono ?_;rintro e w7 ⟨rfl,hE7⟩;go_wp2_with fail;go_ret2;have hEE:=((hE.trans hE5).trans hE6).trans hE7;refine ⟨_,_,rfl,?_,?_,hEE⟩
   ·have:=(hOO6.tl).ext hE7;rw [HtlO.out] at this;exact ⟨g4,K,rfl,this⟩
   ·obtain ⟨g,cap,hv,ho⟩:=hRy;exact ⟨g,cap,hv,(ho.mono (hE.trans hE5).size).ext hE7⟩
  ·obtain ⟨i,rfl⟩ : ∃i,k=i+1:=⟨k-1,by omega⟩
   have hkz:((i+1:Nat):Int)-1=(i:Int):=by omega
   rw [hkz];have hin:i+n<la+1:=by have:=HK.out;omega
   have hS3:=Hin.out
   have hAlt:vP A<1000000000^(i+n+1):=by
    refine Nat.lt_of_lt_of_le hS3.2.2.1 ?_;have:=YD V;rw [<-Hn.out] at this;rw [show i+n+1=n+(i+1) by omega,Nat.pow_add 1000000000 n (i+1)];exact Nat.mul_le_mul_right _ (Nat.le_of_lt this)
   obtain ⟨x1,hx1⟩ : ∃x,x=A[i+n]'(by omega):=⟨_,rfl⟩
   obtain ⟨x0,hx0⟩ : ∃x,x=A[i+n-1]'(by omega):=⟨_,rfl⟩
   obtain ⟨x2,hx2⟩ : ∃x,x=A[i+n-2]'(by omega):=⟨_,rfl⟩
   obtain ⟨y1,hy1⟩ : ∃y,y=(pc V)[n-1]'(by rw [<-Hn.out];omega):=⟨_,rfl⟩
   obtain ⟨y2,hy2⟩ : ∃y,y=(pc V)[n-2]'(by rw [<-Hn.out];omega):=⟨_,rfl⟩
   have bx1:x1<1000000000:=by rw [hx1];exact K9 hS3.1 _
   have bx0:x0<1000000000:=by rw [hx0];exact K9 hS3.1 _
   have bx2:x2<1000000000:=by rw [hx2];exact K9 hS3.1 _
   have by1:y1<1000000000:=by rw [hy1];exact K9 (KL V) _
   have by2:y2<1000000000:=by rw [hy2];exact K9 (KL V) _
   have cx1:wr.cell? ⟨g2,i+n,none⟩=some (.int .u64 (x1:Nat)):=by rw [hx1];exact hOA.cell _
   have cx0:wr.cell? ⟨g2,i+n-1,none⟩=some (.int .u64 (x0:Nat)):=by rw [hx0];exact hOA.cell _
   have cx2:wr.cell? ⟨g2,i+n-2,none⟩=some (.int .u64 (x2:Nat)):=by rw [hx2];exact hOA.cell _
   have cy1:wr.cell? ⟨g3,n-1,none⟩=some (.int .u64 (y1:Nat)):=by
    have:=hSB.cell (n-1) _ (ZY (by rw [<-Hn.out];omega));rw [Nat.zero_add] at this;rw [hy1];exact this
   have cy2:wr.cell? ⟨g3,n-2,none⟩=some (.int .u64 (y2:Nat)):=by
    have:=hSB.cell (n-2) _ (ZY (by rw [<-Hn.out];omega));rw [Nat.zero_add] at this;rw [hy2];exact this
   have hV0:V≠0:=λe=>by have:=Hn.out;rw [e,Qz] at this;simp at this;omega
   have hy1p:1<=y1:=by
    rw [hy1];have:=Kne hV0 (by rw [<-Hn.out];omega);simpa only [<-Hn.out] using this
   -- the first three pieces of A and the first two of V as numbers
   have hX:(x1*1000000000+x0)*1000000000+x2=vP A/1000000000^(i+(n-2)):=by
    rw [hx1,hx0,hx2,Kjh hS3.1,Kjh hS3.1,Kjh hS3.1,<-Krr (j:=i+(n-2)) (by rw [show i+(n-2)+3=i+n+1 by omega];exact hAlt)];rw [show i+(n-2)+2=i+n by omega,show i+(n-2)+1=i+n-1 by omega,show i+(n-2)=i+n-2 by omega]
   have hY:y1*1000000000+y2=V/1000000000^(n-2):=by
    have hlt:=YD V;rw [<-Hn.out] at hlt;refine Eq.trans ?_ (Krq (j:=n-2) (by rw [show n-2+2=n by omega];exact hlt));rw [hy1,hy2,J5,J5,show n-2+1=n-1 by omega]
   obtain ⟨q,hq⟩ : ∃q,q=vP A/(V*1000000000^i):=⟨_,rfl⟩
   have hq9:q<1000000000:=by
    rw [hq];refine Nat.div_lt_of_lt_mul ?_
    have:=hS3.2.2.1;rw [Nat.pow_succ,<-Nat.mul_assoc] at this;exact this
   have hlow:q*(y1*1000000000+y2)<=(x1*1000000000+x0)*1000000000+x2:=by
    rw [hq,hX,hY];exact Kp1
   have hhigh : ∀g,g<1000000000->g*(y1*1000000000+y2)<=(x1*1000000000+x0)*1000000000+x2->g<=q+1:=by
    intro g hg h;rw [hq];rw [hX,hY] at h;exact Kox h (by rw [<-hY];omega) (by omega)
   have Hx:=hid (And.intro hX hY);have Hq:=hid hq;have Hlow:=hid hlow;have Hhigh:=hid hhigh;have HA:=hid hAlt;obtain ⟨hi',hhi⟩ : ∃h,h=x1*1000000000+x0:=⟨_,rfl⟩
   have hhiz:(x1:Int)*1000000000+x0=(hi':Int):=by omega
   have hhi9:hi'<1000000000000000000:=by omega
   obtain ⟨ge,hge⟩ : ∃ge,ge=hi'/y1:=⟨_,rfl⟩
   obtain ⟨re,hre⟩ : ∃re,re=hi'%y1:=⟨_,rfl⟩
   have hgez:(hi':Int)/y1=(ge:Int):=by rw [hge];simp
   have hrez:(hi':Int)%y1=(re:Int):=by rw [hre];simp
   have hy1z:(1:Int)<=(y1:Int):=by omega
   have hstart:ge*y1+re=hi'/\q<=ge:=by
    refine ⟨by rw [hge,hre,Nat.mul_comm];exact Nat.div_add_mod _ _,?_⟩;rw [hge,Nat.le_div_iff_mul_le (by omega)];have h1:=Hlow.out;rw [Nat.mul_add,<-Nat.mul_assoc] at h1;rw [hhi];omega
   have Hstart:=hid hstart;have hge9:ge<1000000000000000000:=by rw [hge];exact Nat.lt_of_le_of_lt (Nat.div_le_self _ _) hhi9
   have hre9:re<1000000000:=by rw [hre];have:=Nat.mod_lt hi' (show 0<y1 by omega);omega
   have Hhi:=hid hhi;clear hx1 hx0 hx2 hy1 hy2 hX hY hq hlow hhigh hAlt hS3 hhi hge hre hstart hkz hk0 hV0
   go_wp2
   go_quiet (fail)
   go_wp2
   go_quiet (fail)
   go_wp2
   have hE1:=hE
   go_loopw [13,14] (λgs rs wi => ∃(gg r:Nat),gs = .int .u64 gg/\rs = .int .u64 r/\gg<1000000000000000000/\r<1000000000000000000/\Hid (gg*y1+r=hi'/\q<=gg) /\ ∃nq,wi=wr.drewN nq) (λgs _ _=>(intOf gs).toNat)
   case atStart=>exact ⟨ge,re,by first | rfl | exact congrArg (Value.int .u64) hgez,by first | rfl | exact congrArg (Value.int .u64) hrez,hge9,by omega,Hstart,_,World.drewN_drewN _ _ _⟩
   case round =>
    obtain ⟨gg,r,rfl,rfl,hg9,hr9,Hg,nq,rfl⟩:=hrel;have hlow':q*(y1*1000000000+y2)<=hi'*1000000000+x2:=by rw [Hhi.out];exact Hlow.out
    have Hlow':=hid hlow';clear hlow' Hstart
    by_cases hc1:1000000000<=gg
    ·have t1:(1000000000:Int)<=(gg:Int):=by omega
     have hnew:(gg-1)*y1+(r+y1)=hi'/\q<=gg-1:=⟨Khm Hg.out.1 (by omega),by omega⟩
     have hrr:r+y1<1000000000000000000:=by
      have:=hnew.1;omega
     have Hnew:=hid hnew;clear hnew
     go_wp2
     go_quiet (fail)
     go_wp2
     go_roundw
     case rel=>exact ⟨gg-1,r+y1,by go_num,by go_num,by omega,hrr,Hnew,_,by first | rfl | exact World.drewN_drewN _ _ _⟩
     case measure=>simp [intOf]<;>omega
    ·have t1:decide ((1000000000:Int)<=(gg:Int))=false:=decide_eq_false (by omega);have t1':(gg:Int)<1000000000:=by omega
     have hz:=Kd0 (show gg<1000000000 by omega) by2;obtain ⟨z,hz'⟩ : ∃z,z=gg*y2:=⟨_,rfl⟩
     have hzz:(gg:Int)*(y2:Int)=(z:Int):=by rw [hz'];rfl
     rw [<-hz'] at hz;have Hz:=hid hz';clear hz'
     by_cases hc2:r<1000000000/\r*1000000000+x2<z
     ·obtain ⟨hr9',hc3⟩:=hc2;have t2:decide ((r:Int)<1000000000)=true:=decide_eq_true (by omega);have t3:(r:Int)*1000000000+x2<(z:Int):=by omega
      have t3':decide ((r:Int)*1000000000+x2<(z:Int))=true:=decide_eq_true t3;have hn:=Koy Hg.out.1 Hlow'.out (by rw [<-Hz.out];exact hc3);have hnew:(gg-1)*y1+(r+y1)=hi'/\q<=gg-1:=⟨Khm Hg.out.1 hn.2,hn.1⟩
      have hrr:r+y1<1000000000000000000:=by omega
      have hg1:=hn.2;have Hnew:=hid hnew;clear hnew hn
      go_wp2
      go_quiet (fail)
      go_wp2
      go_roundw
      case rel=>exact ⟨gg-1,r+y1,by go_num,by go_num,by omega,hrr,Hnew,_,by first | rfl | exact World.drewN_drewN _ _ _⟩
      case measure=>simp [intOf]<;>omega
     ·have hge':gg<=q+1:=by
       refine Hhigh.out gg (by omega) ?_;rw [<-Hhi.out];refine Kow Hg.out.1 ?_;rw [<-Hz.out];omega
      have hqg:=Hg.out.2
      have hpre:(decide ((r:Int)<1000000000)=false/\True/\True)\/(decide ((r:Int)<1000000000)=true/\(r:Int)<1000000000/\decide ((r:Int)*1000000000+x2<(z:Int))=false):=by
       by_cases h:(r:Int)<1000000000
       ·exact .inr ⟨decide_eq_true h,h,decide_eq_false (by omega)⟩
       ·exact .inl ⟨decide_eq_false h,trivial,trivial⟩
      have hwd : ∀m,Ext w (wr.drewN m):=λm=>hE1.drewN m
      have Htake:Hid (∀m,Calls Tryz.prog 151 #[slv g2 (la+1) cap2,slv g3 n cap3,.int .u64 gg,.int .i64 i] (wr.drewN m) λe w' => ∃(p':List Nat) (bw:Nat),e = .returned (.bool (decide (0<bw)))/\Hid (p'.length=la+1/\Kz p'/\p'.drop (i+n+1)=A.drop (i+n+1)/\bw<=1/\(vP p':Int)-bw*1000000000^(i+n+1)=vP A-gg*V*1000000000^i)/\KG w.heap.size w' g2 cap2 p'/\(wr.drewN m).grownBy w' (some g2)):=by
       intro m;have h:=Kh5 (c2:=cap3) (at_:=i) (n:=gg) (hOA.drewN m) (hSB.drewN m) hne32 Hin.out.1 (KL V) (by rw [<-Hn.out,hAl];omega) (by rw [hAl];omega) (by omega);rw [hAl,<-Hn.out,ZO] at h;exact h
      clear hc2 Hlow';have HE04:Hid (w.heap.size<=wr.heap.size):=hE.size
      rcases hpre with ⟨t2,t2',t3⟩ | ⟨t2,t2',t3⟩
      all_goals
       go_wp2
       go_quiet (fail)
       go_wp2_with fail;refine (Htake.out _).mono ?_;rintro e w5 ⟨A5,bw,rfl,H5,hO5,hG5⟩;have hG5':wr.grownBy w5 (some g2):=⟨hG5.os,hG5.tape,hG5.output,hG5.size,hG5.block⟩
       have hM5:vP A5<1000000000^(i+n+1):=Kid Hin.out.1 H5.out.2.1 (by rw [hAl];omega) (by rw [H5.out.1,hAl]) H5.out.2.2.1 HA.out;have hM5x:=hM5
       have hVP:0<V*1000000000^i:=Nat.mul_pos (by
        rcases Nat.eq_zero_or_pos V with h | h
        ·have:=Hn.out;rw [h,Qz] at this;simp at this;omega
        ·exact h) (Nat.pow_pos (by omega))
       have hVM:V*1000000000^i<=1000000000^(i+n+1):=by
        have:=YD V;rw [<-Hn.out] at this;rw [show i+n+1=(n+1)+i by omega,Nat.pow_add 1000000000 (n+1) i];exact Nat.mul_le_mul_right _ (Nat.le_trans (Nat.le_of_lt this) (Nat.pow_le_pow_right (by omega) (by omega)))
       have hkt:=Koz (bw:=bw) Hq.out hVP hqg hge' H5.out.2.2.2.1 hM5 hVM (by
        have:=H5.out.2.2.2.2;rw [Int.natCast_pow,Int.natCast_pow]
        exact this)
       have hS5:=hSB.grown hG5' hne32;have hOO5:=hOO.other hG5' hne42;have hE5:Ext w w5:=Kb hE hG5' hg2.1
       -- what is left, once the digit q is known
       have hround : ∀(A6:List Nat) (w6:World),Hid (A6.length=la+1/\Kz A6/\vP A6+q*(V*1000000000^i)=vP A)->KG w.heap.size w6 g2 cap2 A6->KG w.heap.size w6 g4 K O->Sl w6 (some ⟨g3,0,none⟩) g3 0 (us (pc V))->Ext w w6 ->
         (Hid (Kz A6/\Kz (O.set i q)/\vP A6<V*1000000000^i/\vP A6+vP (O.set i q)*V=U /\ ∀j,j<i -> ∀h:j<(O.set i q).length,(O.set i q)[j]=0)/\KG w.heap.size (w6.setCell ⟨g4,i,none⟩ (.int .u64 (q:Nat))) g2 cap2 A6/\KG w.heap.size (w6.setCell ⟨g4,i,none⟩ (.int .u64 (q:Nat))) g4 K (O.set i q)/\Sl (w6.setCell ⟨g4,i,none⟩ (.int .u64 (q:Nat))) (some ⟨g3,0,none⟩) g3 0 (us (pc V))/\Ext w (w6.setCell ⟨g4,i,none⟩ (.int .u64 (q:Nat)))):=by
        intro A6 w6 h6 hA6 hO6 hS6 hE6;obtain ⟨hs1,hs2⟩:=hO6.set i q;have hiO:i<O.length:=by rw [hOl];omega
        have hz:=Hin.out.2.2.2.2 i (by omega) hiO;refine ⟨⟨h6.out.2.1,ZX Hin.out.2.1 _ hq9,KmU Hq.out hVP h6.out.2.2,?_,λj hj h => ?_⟩,hA6.other hs2 (by omega),hs1,hS6.grown hs2 (by omega),Kb hE6 hs2 hO6.lt.1⟩
        ·have e1:=Kcq O i q hiO;rw [hz] at e1;have e2:=Hin.out.2.2.2.1;have e3:=h6.out.2.2
         have e1':vP (O.set i q)=vP O+q*1000000000^i:=by
          have:((vP (O.set i q):Nat):Int)=((vP O+q*1000000000^i:Nat):Int):=by
           rw [e1,Int.natCast_add,Int.natCast_mul,Int.natCast_pow];simp
          exact Int.ofNat.inj this
         rw [e1',Nat.add_mul,<-e2,<-e3,Nat.mul_assoc,Nat.mul_comm (1000000000^i) V];omega
        ·rw [List.getElem_set_ne (by omega)];exact Hin.out.2.2.2.2 j (by omega) (by simpa using h)
       have Hround:=hid hround;have Hkt:=hid hkt;have hiO:i<O.length:=by rw [hOl];omega
       have hiK:i<K:=by omega
       clear hround hkt
       rcases (show bw=0\/bw=1 by have:=H5.out.2.2.2.1;omega) with rfl | rfl
       ·obtain rfl:=Hkt.out.1.1 rfl;have R:=hid (Hround.out A5 w5 ⟨H5.out.1,H5.out.2.1,Hkt.out.2.1 rfl⟩ hO5 hOO5 hS5 hE5);have cst:w5.cell? ⟨g4,i,none⟩=some (.int .u64 (O[i]:Nat)):=hOO5.cell hiO;have fst:=hOO5.frozen i;clear Hround Hkt Htake hO5 hOO5 hS5 hE5 hVM hVP hM5 hG5 hG5' hOA hOO hSB hE hE1 hwd
        go_wp2
        obtain ⟨R1,R2,R3,R4,R5⟩:=R.out;go_roundw
        case rel=>exact ⟨i,A5,O.set i gg,by omega,by go_num,H5.out.1,by rw [List.length_set];exact hOl,R1,R2,R3,R4,R5⟩
        case measure=>simp [intOf]<;>omega
       ·obtain ⟨hgq,hv5⟩:=Hkt.out.2.2 rfl;have hgz:(gg:Int)-1=(q:Int):=by omega
        have hbk:=Kdo (c2:=cap3) (at_:=i) hO5 hS5 hne32 H5.out.2.1 (KL V) (by rw [<-Hn.out,H5.out.1];omega) (by rw [H5.out.1];omega);rw [H5.out.1,<-Hn.out,ZO] at hbk;have Hbk:=hid hbk;have Hv5:=hid hv5;have Hgq:=hid hgq;have HVM:=hid hVM;have HVP:=hid hVP;have HM5:=hid hM5;clear hbk hv5 hgq hVM hM5 hVP hM5x;go_wp2_with fail;refine Hbk.out.mono ?_;rintro e w6 ⟨A6,rfl,H6,hO6,hG6⟩;obtain ⟨cc,hcc⟩:=H6.out.2.2.2;have hM6:vP A6<1000000000^(i+n+1):=Kid H5.out.2.1 H6.out.2.1 (by rw [H5.out.1];omega) (by rw [H6.out.1,H5.out.1]) H6.out.2.2.1 HM5.out
        have hfin:vP A6+q*(V*1000000000^i)=vP A:=Kov (c:=cc) (M:=1000000000^(i+n+1)) Hq.out HVP.out HVM.out hM6 Hv5.out (by
         rw [Int.natCast_pow,Int.natCast_pow]
         exact hcc)
        have hOO6:=hOO5.other hG6 hne42;have R:=hid (Hround.out A6 w6 ⟨by rw [H6.out.1],H6.out.2.1,hfin⟩ hO6 hOO6 (hS5.grown hG6 hne32) (Kb hE5 hG6 hg2.1));have cst:w6.cell? ⟨g4,i,none⟩=some (.int .u64 (O[i]:Nat)):=hOO6.cell hiO;have fst:=hOO6.frozen i;have hl6:A6.length=la+1:=H6.out.1;have Hl6:=hid hl6;clear Hround Hkt Htake hO5 hOO5 hS5 hE5 hG5 hG5' hOA hOO hSB hE hE1 hwd hO6 hOO6 hG6 hM6 hfin hcc hl6
        go_wp2
        obtain ⟨R1,R2,R3,R4,R5⟩:=R.out;go_roundw
        case rel=>exact ⟨i,A6,O.set i q,by omega,by go_num,Hl6.out,by rw [List.length_set];exact hOl,R1,R2,by first | exact R3 | (rw [hgz];exact R3),R4,R5⟩
        case measure=>simp [intOf]<;>omega
section
variable {P:Program} (w:World)
theorem KoW (base:Nat) (t ty e:TypeId) (i:TypeInfo) (z:Value) (size bytes:Nat) (ht:P.underlying t=some (.slice e)) (hi:P.info? e=some i) (hz:i.zero=some z)
  (hsize:i.size=size) (hby:i.bytes=bytes) (hzs:z.cells.size=size)
  (g cap n:Nat) (xs:List Value) (hown:w.ownsRow base e size (slv g n cap) n xs)
  (a:Addr) (m c:Nat) (news:List Value) (hl:news.length=m*size) (hnews : ∀j u,news[j]? = some u->w.cell? (a.add j)=some u) (h1 : ∀u∈news,u.oneCell'=true)
  (h63:n+m<=maxLen) (hbytes:(n+m)*bytes<=140737488355328) (hbase:base<=w.heap.size) :
  ∃g' cap' w',(Builtin.append_ #[t,t] ty #[slv g n cap,.slice (some a) m c]).run P w = .ok (slv g' (n+m) cap') w'/\w'.ownsRow base e size (slv g' (n+m) cap') (n+m) (xs++news)/\w.grownBy w' (some g)/\(g'=g\/g'=w.heap.size):=by
 subst hsize;subst hby;have hsmall:n+m<=9223372036854775807:=by simp only [maxLen] at h63;omega
 have hlen:(xs++news).length=(n+m)*i.size:=by rw [List.length_append,hown.1,hl,Nat.add_mul]
 rcases hown.2 with ⟨h0,_⟩ | ⟨g0,cap0,cur,h0,hbg,hg,hnc,hcm,hcs,htake⟩
 ·simp at h0
 simp only [slv,Value.slice.injEq,Option.some.injEq,Addr.mk.injEq,and_true,true_and] at h0;obtain ⟨rfl,rfl⟩:=h0
 by_cases hroom:n+m<=cap
 ·have hfit:n*i.size+news.length<=cur.size:=by rw [hl,hcs,<-Nat.add_mul];exact Nat.mul_le_mul_right _ hroom
  have hr:=run_append_room (P:=P) w t ty e i ht hi g n cap cur hg a m c news hl hnews h1 hroom hfit;refine ⟨g,cap,_,hr,⟨hlen,.inr ⟨g,cap,_,rfl,hbg,setRow_heap w g cur _ e _ hg,hroom,hcm,?_,?_⟩⟩,⟨rfl,rfl,rfl,by simp,λk _ hk=>setRow_other w g k _ (λe=>hk (by simp [e]))⟩,.inl rfl⟩
  ·simp only [List.size_toArray,List.length_append,List.length_take,List.length_drop,Array.length_toList];omega
  ·rw [htake,<-hlen];exact List.take_left
 ·have holds : ∀j u,xs[j]? = some u->w.cell? ((⟨g,0,none⟩:Addr).add j)=some u:=hown.cells (g:=g) rfl;have hr:=run_append_grow (P:=P) w t ty e i z ht hi hz ⟨g,0,none⟩ n cap xs hown.1 holds a m c news hl hnews (by omega) (by omega) (growslice_fits (by omega) hbytes);have hge:=grownCap_ge w (n+m) cap e;have hcm':grownCap w (n+m) cap e<=maxLen:=grownCap_le_maxLen w (n+m) cap e h63;refine ⟨w.heap.size,_,_,hr,⟨hlen,.inr ⟨w.heap.size,_,_,rfl,hbase,heap_alloc_new w.drew _,hge,hcm',?_,?_⟩⟩,⟨rfl,rfl,rfl,by simp,λk hk _=>Below.heap_alloc w.drew _ k hk⟩,.inr rfl⟩
  ·simp only [Array.size_append,List.size_toArray,size_zeroCells,hzs,hown.1,hl,<-Nat.add_mul]
   congr 1
   omega
  ·simp only [Array.toList_append,List.append_assoc];rw [<-List.append_assoc,<-hlen];exact List.take_left
theorem Ke3 (z:Value) (n:Nat):(Builtin.zeroCells #[z] n).toList=List.replicate n z:=by
 refine List.ext_getElem? λj => ?_
 simp only [Builtin.zeroCells,Array.toList_map,List.getElem?_map,List.getElem?_replicate]
 by_cases h:j<n
 ·simp [h];simp [Nat.mod_one]
 ·simp [h]
theorem KeY (base:Nat) (t ti ty e:TypeId) (i:TypeInfo) (z:Value) (bytes:Nat) (ht:P.underlying t=some (.slice e)) (hti:P.underlying ti=some (.int .i64)) (hi:P.info? e=some i) (hz:i.zero=some z)
  (hsize:i.size=1) (hby:i.bytes=bytes) (hzs:z.cells = #[z]) (hz1:z.oneCell'=true)
  (g cap n:Nat) (xs:List Value) (hown:w.ownsRow base e 1 (slv g n cap) n xs) (m:Nat)
  (h63:n+m<=maxLen) (hbytes:(n+m)*bytes<=140737488355328) (hbase:base<=w.heap.size) :
  ∃g' cap' w',(Builtin.append_ #[t,ti] ty #[slv g n cap,.int .i64 m]).run P w = .ok (slv g' (n+m) cap') w'/\w'.ownsRow base e 1 (slv g' (n+m) cap') (n+m) (xs++List.replicate m z)/\w.grownBy w' (some g)/\(g'=g\/g'=w.heap.size):=by
 subst hby;have hsmall:n+m<=9223372036854775807:=by simp only [maxLen] at h63;omega
 have hlen:(xs++List.replicate m z).length=(n+m)*1:=by rw [List.length_append,hown.1,List.length_replicate];omega
 have hwr:IntKind.i64.wrap (m:Int)=m:=IntWalk.i64_in _ (by omega);have hneg : ¬((m:Int)<0):=by omega
 have hai : ∀(k:Nat) (w:World),(asInt (.int .i64 (k:Int))).run P w = .ok (k:Int) w:=λ_ _=>by simp [asInt,asIntOf]
 have hai0 : ∀(w:World),(asInt (.int .i64 (0:Int))).run P w = .ok (0:Int) w:=λ_=>by simp [asInt,asIntOf]
 have hbig : ¬(281474976710656<(m:Int)*(i.bytes:Int)):=by
  have h1:m*i.bytes<=(n+m)*i.bytes:=Nat.mul_le_mul_right _ (by omega);have:((m*i.bytes:Nat):Int)<=140737488355328:=by omega
  rw [Int.natCast_mul] at this;omega
 have hzc:Builtin.zeroCells #[z] m=(List.replicate m z).toArray:=by
  apply Array.ext';rw [Ke3]
 rcases hown.2 with ⟨h0,_⟩ | ⟨g0,cap0,cur,h0,hbg,hg,hnc,hcm,hcs,htake⟩
 ·simp at h0
 simp only [slv,Value.slice.injEq,Option.some.injEq,Addr.mk.injEq,and_true,true_and] at h0;obtain ⟨rfl,rfl⟩:=h0
 by_cases hroom:n+m<=cap
 ·have hst:=run_storeCells_at P g n e (List.replicate m z) 0 cur w hg (by rw [List.length_replicate,hcs];omega) (λv hv=>by rw [List.mem_replicate] at hv;rw [hv.2];exact hz1);simp only [Nat.add_zero] at hst;refine ⟨g,cap,w.setRow g (cur.toList.take n++List.replicate m z++cur.toList.drop (n+(List.replicate m z).length)).toArray,?_,⟨hlen,.inr ⟨g,cap,_,rfl,hbg,setRow_heap w g cur _ e _ hg,hroom,hcm,?_,?_⟩⟩,⟨rfl,rfl,rfl,by simp,λk _ hk=>setRow_other w g k _ (λe=>hk (by simp [e]))⟩,.inl rfl⟩
  ·by_cases hm:m=0
   ·subst hm;have hwr0:IntKind.i64.wrap 0=0:=by decide
    have hb0 : ¬((281474976710656:Int)<0*(i.bytes:Int)):=by omega
    have hr0:n<=cap:=by omega
    simp [hwr0,hr0,Builtin.append_,run_underlying ht,run_underlying hti,sizeOf,typeInfo,hi,hai0,Addr.add_lit,storeCells];rw [setRow_self w g cur e (0,0) hg]
   ·have hm1:m*1≠0:=by omega
    simp [Builtin.append_,run_underlying ht,run_underlying hti,sizeOf,typeInfo,zeroValue,hi,hz,hsize,hai,hroom,Addr.add_lit,hwr,hneg,hbig,hm,hzs,hzc,hst]
  ·simp only [List.size_toArray,List.length_append,List.length_take,List.length_drop,Array.length_toList,List.length_replicate];omega
  ·rw [show cur.toList.take n=xs by simpa using htake,<-hlen];exact List.take_left
 ·have holds : ∀j u,xs[j]? = some u->w.drew.cell? ((⟨g,0,none⟩:Addr).add j)=some u:=λj u h=>by simpa using hown.cells (g:=g) rfl j u h
  have hfo:=run_firstCells_some (P:=P) w.drew i.size n ⟨g,0,none⟩ n cap xs (by rw [hsize];exact hown.1) holds;rw [hsize] at hfo;have hge:=grownCap_ge w (n+m) cap e;have hcm':grownCap w (n+m) cap e<=maxLen:=grownCap_le_maxLen w (n+m) cap e h63;have hm : ¬m=0:=by omega
  have h63' : ¬(9223372036854775807<((n:Int)+(m:Int))):=by omega
  have h48' : ¬(281474976710656<Builtin.nextslicecap (n+m) cap*i.bytes):=by have:=growslice_fits (old:=cap) (need:=n+m) (by omega) hbytes;omega
  refine ⟨w.heap.size,grownCap w (n+m) cap e,w.drew.alloc (.cells (xs.toArray++(List.replicate m z).toArray++Builtin.zeroCells #[z] (grownCap w (n+m) cap e-(n+m))) e),?_,⟨hlen,.inr ⟨w.heap.size,_,_,rfl,hbase,heap_alloc_new w.drew _,hge,hcm',?_,?_⟩⟩,⟨rfl,rfl,rfl,by simp,λk hk _=>Below.heap_alloc w.drew _ k hk⟩,.inr rfl⟩
  ·have hn : ¬(n+m<=cap):=hroom;simp [Builtin.append_,run_underlying ht,run_underlying hti,sizeOf,typeInfo,zeroValue,hi,hz,hsize,hai,hn,h63',h48',Question.forced,hwr,hneg,hbig,hm,hzs,hzc,hfo,newRow,grownCap]
  ·simp only [Array.size_append,List.size_toArray,size_zeroCells,hown.1,List.length_replicate];simp;omega
  ·simp only [Array.toList_append,List.append_assoc];rw [<-List.append_assoc,<-hlen];exact List.take_left
theorem Ka3 {ops:Array Oper} {rest:List Oper} {o:Oper} {a:Act} {Q:Exit->Act->World->Prop} (hgd:o.guard=none) (s x:Operand) (t:TypeId)
  (ho:o.op = .call { callee := .builtin .append,args := #[s,x],argTypes := #[t,t] })
  (base:Nat) (e:TypeId) (i:TypeInfo) (z:Value) (size bytes:Nat) (ht:P.underlying t=some (.slice e)) (hi:P.info? e=some i) (hz:i.zero=some z)
  (hsize:i.size=size) (hby:i.bytes=bytes) (hzs:z.cells.size=size)
  (g cap n:Nat) (xs:List Value) (hs:a.eval s=slv g n cap) (hown:w.ownsRow base e size (slv g n cap) n xs)
  (ad:Addr) (m c:Nat) (news:List Value) (hx:a.eval x = .slice (some ad) m c) (hl:news.length=m*size) (hnews : ∀j u,news[j]? = some u->w.cell? (ad.add j)=some u) (h1 : ∀u∈news,u.oneCell'=true)
  (h63:n+m<=maxLen) (hbytes:(n+m)*bytes<=140737488355328) (hbase:base<=w.heap.size)
  (h : ∀g' cap' w',w'.ownsRow base e size (slv g' (n+m) cap') (n+m) (xs++news)->w.grownBy w' (some g)->(g'=g\/g'=w.heap.size)->wpList P ops Q rest (a.put o.dst (slv g' (n+m) cap')) w'):wpList P ops Q (o::rest) a w :=
 wpList_plain hgd λK hK=>by
  obtain ⟨g',cap',w',hr,h2,h3,h4⟩:=KoW (P:=P) w base t o.type e i z size bytes ht hi hz hsize hby hzs g cap n xs hown ad m c news hl hnews h1 h63 hbytes hbase;unfold Oper.wp execOp;simp only [ho,resolve,invoke,builtin,Sem.run_bind,Sem.run_pure,Result.andThen_ok,List.map_toArray,List.map_cons,List.map_nil,hs,hx,hr];exact hK _ _ (h g' cap' w' h2 h3 h4)
theorem Xv {ops:Array Oper} {rest:List Oper} {o:Oper} {a:Act} {Q:Exit->Act->World->Prop} (hgd:o.guard=none) (s x:Operand) (t ti:TypeId)
  (ho:o.op = .call { callee := .builtin .append,args := #[s,x],argTypes := #[t,ti] })
  (base:Nat) (e:TypeId) (i:TypeInfo) (z:Value) (bytes:Nat) (ht:P.underlying t=some (.slice e)) (hti:P.underlying ti=some (.int .i64)) (hi:P.info? e=some i) (hz:i.zero=some z)
  (hsize:i.size=1) (hby:i.bytes=bytes) (hzs:z.cells = #[z]) (hz1:z.oneCell'=true)
  (g cap n:Nat) (xs:List Value) (hs:a.eval s=slv g n cap) (hown:w.ownsRow base e 1 (slv g n cap) n xs) (m:Nat) (hx:a.eval x = .int .i64 m)
  (h63:n+m<=maxLen) (hbytes:(n+m)*bytes<=140737488355328) (hbase:base<=w.heap.size)
  (h : ∀g' cap' w',w'.ownsRow base e 1 (slv g' (n+m) cap') (n+m) (xs++List.replicate m z)->w.grownBy w' (some g)->(g'=g\/g'=w.heap.size)->wpList P ops Q rest (a.put o.dst (slv g' (n+m) cap')) w'):wpList P ops Q (o::rest) a w :=
 wpList_plain hgd λK hK=>by
  obtain ⟨g',cap',w',hr,h2,h3,h4⟩:=KeY (P:=P) w base t ti o.type e i z bytes ht hti hi hz hsize hby hzs hz1 g cap n xs hown m h63 hbytes hbase;unfold Oper.wp execOp;simp only [ho,resolve,invoke,builtin,Sem.run_bind,Sem.run_pure,Result.andThen_ok,List.map_toArray,List.map_cons,List.map_nil,hs,hx,hr];exact hK _ _ (h g' cap' w' h2 h3 h4)
end
end
end Go.Proofs.YtdmaofimeknkbaaGreatDoor
