/- Part 37 of the proof of the claim: contracts of the functions that it reaches, and plain laws; no condition. -/
import Derived.Test.YtdmaofimeknkbaaGreatDoorQ35
import Derived.Test.YtdmaofimeknkbaaGreatDoorQ36
import Derived.BigQuiet
import Derived.Deep.CutRange
set_option maxRecDepth 100000
set_option maxHeartbeats 20000000
namespace Go.Proofs.YtdmaofimeknkbaaGreatDoor
section
open Go.RowKit Go.Sort
open Lib (hid)
theorem KH.shapeQ {B:Nat} {w:World} {v:Value} {r:List Int} (h:KH B w v r) : ∃ga cap,v = .slice ga r.length cap:=by
 rcases h.2 with ⟨rfl,h0⟩ | ⟨g,cap,cur,rfl,_⟩
 ·rw [h0];exact ⟨none,0,rfl⟩
 ·exact ⟨_,_,rfl⟩
def ldI (l:List Nat):List Int:=l.map λc:Nat=>(c:Int)
@[simp] theorem KaW (l:List Nat):(ldI l).length=l.length:=by simp [ldI]
theorem KmX (l:List Nat) (c:Nat):ldI l++[(c:Int)]=ldI (l++[c]):=by simp [ldI]
def KlQ (w0:World) (g cap n cols E:Nat) (F:Mq) (e:Ending) (w':World):Prop :=
 ∃(lead:List Nat) (F':Mq) (ad':List (Nat×Nat)) (det:Rat) (lv:Value),e = .returned (.tuple #[lv,RV det])/\QgX w0.heap.size w' (slv g F.length cap) F' ad'/\RrI F.length n cols F' lead/\Q2 n F F'/\BdQ (bnd E cols) F'/\KH w0.heap.size w' lv (ldI lead)/\Ext w0 w'
structure RqI (B g cap n E b5 c:Nat) (F0 F:Mq) (ad:List (Nat×Nat)) (lead:List Nat) (lv:Value) (det:Rat) (w:World):Prop where
 mem:RqM B g cap n b5 F ad lv (ldI lead) det w
 red:RrI F0.length n c F lead
 same:Q2 n F0 F
 bd:BdQ (bnd E c) F
 nd:NdQ (c*bnd E c+1) det
theorem RqI.bds {B g cap n E b5 c cols:Nat} {F0 F:Mq} {ad:List (Nat×Nat)} {lead:List Nat} {lv:Value} {det:Rat} {w:World} (h:RqI B g cap n E b5 c F0 F ad lead lv det w) (hc:c<cols) (h1:1<=E) (hb:(cols+6)*bnd E cols+1<=100000000) :
  (∀i j,NdQ 10000000 (qa F i j))/\SmQ det:=by
 have h2:=ZM E (show c<=cols by omega);have h3:c*bnd E c<=cols*bnd E cols:=Nat.mul_le_mul (by omega) h2;have h4:6*bnd E cols<=(cols+6)*bnd E cols:=Nat.mul_le_mul_right _ (by omega);have h5:cols*bnd E cols<=(cols+6)*bnd E cols:=Nat.mul_le_mul_right _ (by omega);have h6:6*bnd E c+1<=bnd E cols:=ZM E (show c+1<=cols by omega);exact ⟨λi j=>(h.bd.qa (Xw h1 c) i j).mono (by omega),h.nd.smQ (by omega)⟩
theorem RqI.ext {B g cap n E b5 c:Nat} {F0 F:Mq} {ad:List (Nat×Nat)} {lead:List Nat} {lv:Value} {det:Rat} {w w':World} (h:RqI B g cap n E b5 c F0 F ad lead lv det w) (he:Ext w w'):RqI B g cap n E b5 c F0 F ad lead lv det w':=⟨h.mem.ext he,h.red,h.same,h.bd,h.nd⟩
theorem RqI.swap {B g cap n E b5 c a:Nat} {F0 F:Mq} {ad:List (Nat×Nat)} {lead:List Nat} {lv:Value} {det:Rat} {w w':World} (h:RqI B g cap n E b5 c F0 F ad lead lv det w) (ha:lead.length<=a) (ham:a<F0.length) (hm:RqM B g cap n b5 (sw2 F [] lead.length a) (sw2 ad (0,0) lead.length a) lv (ldI lead) (-det) w'):RqI B g cap n E b5 c F0 (sw2 F [] lead.length a) (sw2 ad (0,0) lead.length a) lead lv (-det) w':=by
 have h1:lead.length<F.length:=by rw [h.red.len];omega
 have h2:a<F.length:=by rw [h.red.len];omega
 exact ⟨hm,h.red.swap ha ham,h.same.trans (KfE h1 h2),h.bd.swap h1 h2,h.nd.neg⟩
theorem RqI.skip {B g cap n E b5 c:Nat} {F0 F:Mq} {ad:List (Nat×Nat)} {lead:List Nat} {lv:Value} {det:Rat} {w w':World} (h:RqI B g cap n E b5 c F0 F ad lead lv det w) (hm:RqM B g cap n b5 F ad lv (ldI lead) 0 w') (hz : ∀i,lead.length<=i->i<F0.length->qa F i c=0):RqI B g cap n E b5 (c+1) F0 F ad lead lv 0 w' :=
 ⟨hm,h.red.skip hz,h.same,h.bd.mono (by show _<=6*bnd E c+1;omega),NdQ.zero (by omega)⟩
theorem RqI.piv {B g cap n E b5 c:Nat} {F0 F:Mq} {ad:List (Nat×Nat)} {lead:List Nat} {lv lv':Value} {det:Rat} {w w':World} (h:RqI B g cap n E b5 c F0 F ad lead lv det w) (h1:1<=E) (hk:lead.length<F0.length) (hc:c<n) (hp:qa F lead.length c≠0)
  (hm:RqM B g cap n b5 (JF F n lead.length c) ad lv' (ldI (lead++[c])) (det*qa F lead.length c) w'):RqI B g cap n E b5 (c+1) F0 (JF F n lead.length c) ad (lead++[c]) lv' (det*qa F lead.length c) w':=by
 have hkF:lead.length<F.length:=by rw [h.red.len];exact hk
 refine ⟨hm,h.red.pivot hk hc hp,h.same.trans (Kfr h.red.rect hkF hp),h.bd.pivot (Xw h1 c) hp,(h.nd.mul (h.bd.qa (Xw h1 c) _ _)).mono ?_⟩;have h2:c*bnd E c+bnd E c=(c+1)*bnd E c:=by rw [Nat.add_mul,Nat.one_mul]
 have h3:(c+1)*bnd E c<=(c+1)*bnd E (c+1):=Nat.mul_le_mul_left _ (ZM E (by omega));omega
theorem Kh9 {w0 w:World} {g cap n cols E:Nat} {F:Mq} {ad:List (Nat×Nat)} (hG:QgX w0.heap.size w (slv g F.length cap) F ad) (hR:QG n F) (hn0:0<n) (hc:cols<=n) (hF:BdQ E F) (h1:1<=E) (hbd:(cols+6)*bnd E cols+1<=100000000)
  (hn1:n<=1000000) (hm1:F.length<=1000000) (hL:Laid w0) (hE:Ext w0 w) :
  Calls Tryz.prog 48 #[slv g F.length cap,.int .i64 cols] w (KlQ w0 g cap n cols E F):=by
 have HL:=hid hL;have Hbd:=hid hbd;have HB0:=Zg w (.string ⟨#[]⟩) (.string ⟨#[]⟩);have HE0:=hid hE;have hsz:=hE.size;obtain ⟨m,hm⟩ : ∃m,m=F.length:=⟨_,rfl⟩
 have hcap:m<=cap:=by have:=hG.outer.cap;rw [Zy _ _ hG.len] at this;omega
 have hST : ∀X,Ext (w.alloc (.cells #[.string ⟨#[]⟩,.string ⟨#[]⟩] 47)) X->RqM w0.heap.size g cap n w.heap.size F ad (.slice none 0 0) (ldI []) 1 ((X.setCell ⟨w.heap.size,0,none⟩ (I 1)).setCell ⟨w.heap.size,1,none⟩ (I 1))/\Ext w0 ((X.setCell ⟨w.heap.size,0,none⟩ (I 1)).setCell ⟨w.heap.size,1,none⟩ (I 1)):=λX hX=>by
  have hlow : ∀p∈ad,p.1<w.heap.size:=λp hp=>by
   obtain ⟨i,hi,rfl⟩:=List.getElem_of_mem hp;have hi2:i<F.length:=by rw [<-hG.len];exact hi
   have:=(hG.row i hi2 hi (by rw [hR _ (List.getElem_mem hi2)];exact hn0)).lt;exact this.2
  have hwX:Ext w X:=((Ext.refl w).alloc _).trans hX;obtain ⟨k1,k2,k3⟩:=ZW ((HB0.ext hX).mono hsz) (hE.trans hwX) hsz (I 1) (I 1);have hGX:=hG.ext hwX;refine ⟨⟨hR,hGX.keep (R:=(· = w.heap.size)) (Chg.of_grown k3 rfl) (λq => ?_) (λi a _ _ q => ?_),KH.nil _ _,k1,hlow⟩,k2⟩
  ·have:=hG.outer.lt;omega
  ·have:=hlow _ (List.getElem_mem a);omega
 have HST:=hid hST;obtain ⟨b5,hb5⟩ : ∃b5,b5=w.heap.size:=⟨_,rfl⟩
 have hb5w:w0.heap.size<=b5:=by omega
 have HR0:=hid (show RrI F.length n 0 F [] from RrI.start hR rfl);have HF:=hid hF;rw [<-hb5] at HST HB0;rw [<-hm] at hm1;rw [<-hm];have Hm:=hid hm;clear hL hE hbd hST hG hR hF hm
 go_enter Tryz.func48,Tryz.ntmps48
 go_wp2_with fail;rw [<-hb5];have HB0':=hid HB0;clear HB0;refine (KnO _).mono ?_;rintro e X ⟨rfl,hE1⟩;obtain ⟨m0,m1,f0,f1⟩:=Ky (HB0'.out.ext hE1);have HS:=hid (HST.out _ hE1);clear hE1 HB0' HST hb5 HE0 hsz;go_wp2_with fail;obtain ⟨hM,hE2⟩:=HS.out;generalize hW2:World.setCell _ _ _=W2 at *;have hM':=hid hM;clear hW2 HS hM m0 m1 f0 f1
 go_loopw [4,16] (λlv idx wr => ∃(c:Nat) (F1:Mq) (ad1:List (Nat×Nat)) (lead:List Nat) (det:Rat),c<=cols/\idx = .int .i64 c/\Hid (RqI w0.heap.size g cap n E b5 c F F1 ad1 lead lv det wr)/\Ext w0 wr) (λ_ idx _=>cols-(intOf idx).toNat)
 case atStart=>exact ⟨0,F,ad,[],1,by omega,by go_num,hid ⟨hM'.out,HR0.out,Q2.refl _ _,HF.out,NdQ.one (by omega)⟩,hE2⟩
 case round =>
  clear hM' HR0 hE2;obtain ⟨c,F1,ad1,lead,det,hcc,rfl,hI,hE1⟩:=hrel;generalize wr=U at *;obtain ⟨ga,gc,hlv⟩:=hI.out.mem.lead.shapeQ;rw [KaW] at hlv;subst hlv;have hF1:F1.length=m:=by rw [hI.out.red.len,Hm.out]
  have hle:lead.length<=m:=by rw [Hm.out];exact hI.out.red.le
  obtain ⟨d0,d1,fr0,fr1⟩:=Ky hI.out.mem.det
  by_cases hcl:c<cols
  ·have hci:(c:Int)<(cols:Int):=by omega
   have hcn:c<n:=by omega
   have HBD:=hid (hI.out.bds hcl h1 Hbd.out);go_wp2_with fail
   go_loopw [7] (λat' wr => ∃a,lead.length<=a/\a<=m/\at' = .int .i64 (a:Nat)/\Hid (∀i,lead.length<=i->i<a->qa F1 i c=0)/\Ext U wr) (λat' _=>m-(intOf at').toNat)
   case atStart=>exact ⟨lead.length,Nat.le_refl _,hle,rfl,hid (λi h2 h3=>by omega),Ext.refl _⟩
   case round =>
    obtain ⟨a,ha1,ha2,rfl,hz,hEV⟩:=hrel;generalize wr=V at *;have hMV:=hid (hI.out.mem.ext hEV)
    by_cases ham:a<m
    ·have hami:(a:Int)<(m:Int):=by omega
     obtain ⟨gx,cx,ea,c1,c2,c3,_,hgb⟩:=hMV.out.el (i:=a) (by omega) hcn;have hsg:(qa F1 a c).num.sign=0↔qa F1 a c=0:=by rw [Int.sign_eq_zero_iff_zero,Rat.num_eq_zero]
     obtain ⟨sg,hsq⟩ : ∃sg,sg=(qa F1 a c).num.sign:=⟨_,rfl⟩
     have hsn:=hid (YF (qa F1 a c));rw [<-hsq] at hsg hsn;have Hq:=hid hsg;clear hsq hsg;go_wp2_with fail;refine (hsn.out _).mono ?_;rintro e V2 ⟨rfl,hE3⟩;have hEV2:=hEV.trans hE3
     by_cases hs0:sg=0
     ·have hz0:=hid (Hq.out.1 hs0);subst hs0;clear hE3 c1 c2 c3 hsn Hq;go_wp2_with fail;go_roundw
      case rel=>exact ⟨a+1,by omega,by omega,by go_num,hid (λi h2 h3=>by
       rcases Nat.lt_or_ge i a with h4 | h4
       ·exact hz.out i h2 h4
       ·obtain rfl:i=a:=by omega
        exact hz0.out),hEV2⟩
      case measure=>simp [intOf]<;>omega
     ·have hz0:=hid (λq=>hs0 (Hq.out.2 q));clear hz hsn Hq c1 c2 c3 ea hMV hE3;have hane:(a:Int)≠(m:Int):=by omega
      have d0:=hEV2.cell d0;have d1:=hEV2.cell d1;have hI2:=hid (hI.out.ext hEV2);have hE2:=hE1.trans hEV2;clear hEV hEV2 hE1 fr0 fr1 d0 d1 hI;go_upto_if 47 with fail
      go_cut [] from 18 to 63 (λwx => ∃(F2:Mq) (ad2:List (Nat×Nat)) (Qp:Rat),Hid (RqI w0.heap.size g cap n E b5 c F F2 ad2 lead (.slice ga lead.length gc) Qp wx/\qa F2 lead.length c≠0)/\Ext w0 wx)
      case first =>
       by_cases hak:a=lead.length
       ·subst hak;go_wp2_with fail;go_meet;exact ⟨F1,ad1,det,hid ⟨hI2.out,hz0.out⟩,hE2⟩
       ·have hki:(a:Int)≠(lead.length:Int):=by omega
        have hkm:lead.length<m:=by omega
        have hkmi:(lead.length:Int)<(m:Int):=by omega
        obtain ⟨gi,ci,ei,ki,_,_,_,_⟩:=hI2.out.mem.el (i:=lead.length) (by omega) hcn;obtain ⟨gj,cj,ej,kj,_,_,_,_⟩:=hI2.out.mem.el (i:=a) (by omega) hcn;obtain ⟨hS,hSg,q0,q1,hgB⟩:=hI2.out.mem.swap hn0 (i:=lead.length) (j:=a) (by omega) (by omega) ei ej;have hS':=hid hS;have hEg:=hid (Kb hE2 hSg hgB);obtain ⟨hd,hde⟩ : ∃hd,hd=lead.length:=⟨_,rfl⟩
        have hak':a≠hd:=by omega
        have hak2:hd≠a:=by omega
        have hsm:=hid ((HBD.out).2);clear ei ej hS hSg;go_wp2_with fail
        go_region
        generalize hW5:World.setCell (World.setCell V2 _ _) _ _=W5 at *;have hM3:=hid (hS'.out.out.ext ((Ext.refl W5).drew));have hE3:=hEg.out.drew;clear hS' hEg hW5 q0 q1 ki kj;generalize W5.drew=W6 at *;obtain ⟨k0,k1,k2,k3⟩:=Ky hM3.out.det;go_wp2_with fail;refine (KiZ hsm.out W6).mono ?_;rintro e W7 ⟨rfl,hE4⟩;have hM4:=hM3.out.ext hE4;clear k0 k1 k2 k3 hM3;obtain ⟨k0,k1,k2,k3⟩:=Ky hM4.det;obtain ⟨hB,hEB⟩:=hM4.box (hE3.trans hE4) hb5w (-det);have HB:=hid hB;clear hB hM4 hE4 hE3;go_wp2_with fail;go_meet;exact ⟨_,_,-det,hid ⟨hI2.out.swap ha1 (by rw [<-Hm.out];exact ham) HB.out.out,by rw [Kj4 (by omega) (by omega)];exact hz0.out⟩,hEB⟩
      case rest =>
       obtain ⟨F2,ad2,Qp,hI3,hE3⟩:=hcut;generalize wc=Y at *;clear hI2 hE2 hz0 hs0 hgb;have hkm:lead.length<m:=by omega
       have hkmi:(lead.length:Int)<(m:Int):=by omega
       have hF2:F2.length=m:=by rw [hI3.out.1.red.len,Hm.out]
       have HBD2:=hid (hI3.out.1.bds hcl h1 Hbd.out);obtain ⟨gk,ck,ek,y1,y2,y3,_,hgkb⟩:=hI3.out.1.mem.el (i:=lead.length) (by omega) hcn;obtain ⟨d0,d1,fr0,fr1⟩:=Ky hI3.out.1.mem.det;obtain ⟨p,hp⟩ : ∃p,p=qa F2 lead.length c:=⟨_,rfl⟩
       rw [<-hp] at y2 y3;have Hp:=hid hp;have hp0:=hid (show p≠0 by rw [hp];exact hI3.out.2);have hpS:=hid (show SmQ p by rw [hp];exact (HBD2.out.1 _ _).smQ (by omega));have HP9:=hid (Zg Y (I p.num) (I p.den));have Hmul:=hid (λX (hX:Ext Y X)=>KaY HBD2.out.2 hpS.out (w:=X) (HL.out.ext (hE3.trans hX)));have eA:Ext Y (Y.alloc (.cells #[I p.num,I p.den] 47)):=(Ext.refl Y).alloc _;have hq0:(Y.alloc (.cells #[I p.num,I p.den] 47)).cell? ⟨Y.heap.size,0,none⟩=some (I p.num):=by go_simp
       have hq1:(Y.alloc (.cells #[I p.num,I p.den] 47)).cell? ⟨Y.heap.size,1,none⟩=some (I p.den):=by go_simp
       have d0:=eA.cell d0;have d1:=eA.cell d1;have hb9:b5<Y.heap.size:=by have:=hI3.out.1.mem.det.lt;omega
       clear hp;go_upto_region 15 with fail;generalize Y.alloc (.cells #[I p.num,I p.den] _)=Y1 at *;obtain ⟨b9,hb9q⟩ : ∃b9,b9=Y.heap.size:=⟨_,rfl⟩
       rw [<-hb9q] at HP9 hq0 hq1 hb9 ⊢;have Hb9:=hid hb9q;clear hb9q;obtain ⟨dx,hdx⟩ : ∃dx,dx=Qp*p:=⟨_,rfl⟩
       rw [<-hdx] at Hmul;have Hdx:=hid hdx;clear hdx;go_wp2_with fail;refine (Hmul.out _ eA).mono ?_;rintro e Y2 ⟨rfl,hE4⟩;have eB:=eA.trans hE4;have hM4:=hI3.out.1.mem.ext eB;have y1:=eB.cell y1;clear d0 d1 fr0 fr1 Hmul;obtain ⟨d0,d1,fr0,fr1⟩:=Ky hM4.det;obtain ⟨hB,hEB⟩:=hM4.box (hE3.trans eB) hb5w dx;have HB:=hid hB;have hO9:=hid (((HP9.out.ext hE4).mono (show w0.heap.size<=b9 by have:=hE3.size;have:=Hb9.out;omega)).other (ZW hM4.det (hE3.trans eB) hb5w (I dx.num) (I dx.den)).2.2 (by omega));clear hB hq0 hq1 HP9 hM4;go_upto_region 16 with fail;generalize hY3:World.setCell (World.setCell Y2 _ _) _ _=Y3 at *;have Hck:=hid (hI3.out.1.mem.room hn0 (by omega) ek);have hR2:=hid hI3.out.1.mem.rect;clear hY3 d0 d1 fr0 fr1 y1 y2 y3 eB hE4 eA;obtain ⟨gk',ck',ek',y1,_,_,hgk,_⟩:=HB.out.out.el (i:=lead.length) (by omega) hcn;rw [ek] at ek';injection ek' with ek'
       injection ek' with q1 q2
       subst q1 q2;go_wp2_with fail
       go_loopw [79] (λidx wr => ∃(j:Nat),j<=n/\idx = .int .i64 j/\Hid (RqM w0.heap.size g cap n b5 (F2.set lead.length (ZI (F2.getD lead.length []) p j)) ad2 (.slice ga lead.length gc) (ldI lead) dx wr)/\Hid (Kd 47 w0.heap.size wr b9 2 [I p.num,I p.den])/\Ext w0 wr) (λidx _=>n-(intOf idx).toNat)
       case atStart=>exact ⟨0,by omega,by go_num,hid (by rw [Kfe,KbA];exact HB.out.out),hO9,hEB⟩
       case round =>
        clear HB hO9 hEB y1;obtain ⟨j,hj,rfl,hMj,hOj,hEj⟩:=hrel;generalize wr=Z at *
        by_cases hjn:j<n
        ·have hji:(j:Int)<(n:Int):=by omega
         have hkl:lead.length<(F2.set lead.length (ZI (F2.getD lead.length []) p j)).length:=by rw [List.length_set];omega
         obtain ⟨gk',ck',ek',y1,y2,y3,_,_⟩:=hMj.out.el (i:=lead.length) hkl hjn;obtain ⟨x,hx⟩ : ∃x,x=qa F2 lead.length j:=⟨_,rfl⟩
         rw [Kpl p (by omega),<-hx] at y2 y3;rw [ek] at ek';injection ek' with ek'
         injection ek' with q1 q2
         subst q1 q2;obtain ⟨t0,t1,_,_⟩:=Ky hOj.out;have hck:n<=ck:=Hck.out;obtain ⟨xq,hxq⟩ : ∃xq,xq=x/p:=⟨_,rfl⟩
         have Hxq:=hid (show xq=qa F2 lead.length j/p by rw [hxq,hx]);have hxS:=hid (show SmQ x by rw [hx];exact (HBD2.out.1 _ _).smQ (by omega));have Hdiv:=hid (λX (hX:Ext Z X)=>Kd9 hxS.out hpS.out hp0.out (w:=X) (HL.out.ext (hEj.trans hX)));rw [<-hxq] at Hdiv;have Hput:=hid (λX (hX:Ext Z X)=>(hMj.out.ext hX).put hkl hjn ek xq);clear hx hxq;go_wp2_with fail;have dd:Ext Z Z.drew:=(Ext.refl Z).drew;refine Z8 (S:=λW=>Ext Z W) 18 19 (by kernel_rfl) (by kernel_rfl) ?_;generalize Z.drew=Z1 at *;refine Kc (i:=0) (v:=slv g m cap) rfl (by kernel_rfl) (λ_ _ _ h=>h) (.inl ⟨by rfl,λW hW=>by go_simp⟩) dd ?_;go_simp;refine Kc (i:=1) (v := .int .i64 lead.length) rfl (by kernel_rfl) (λ_ _ _ h=>h) (.inl ⟨by rfl,λW hW=>by go_simp⟩) dd ?_;go_simp;refine Kc (i:=2) (v := .pointer (some ⟨g,lead.length,none⟩)) rfl (by kernel_rfl) (λ_ _ _ h=>h) (.inl ⟨by rfl,λW hW=>by go_simp⟩) dd ?_;go_simp;refine Kc (i:=3) (v:=slv gk n ck) rfl (by kernel_rfl) (λ_ _ _ h=>h) (.inl ⟨by rfl,λW hW=>by have q0:=hW.cell y1;go_simp⟩) dd ?_;go_simp;refine Kc (i:=4) (v := .int .i64 j) rfl (by kernel_rfl) (λ_ _ _ h=>h) (.inl ⟨by rfl,λW hW=>by go_simp⟩) dd ?_;go_simp;refine Kc (i:=5) (v:=slv g m cap) rfl (by kernel_rfl) (λ_ _ _ h=>h) (.inl ⟨by rfl,λW hW=>by go_simp⟩) dd ?_;go_simp
         refine Kc (i:=6) (v := .int .i64 lead.length) rfl (by kernel_rfl) (λ_ _ _ h=>h) (.inl ⟨by rfl,λW hW=>by go_simp⟩) dd ?_;go_simp;refine Kc (i:=7) (v := .pointer (some ⟨g,lead.length,none⟩)) rfl (by kernel_rfl) (λ_ _ _ h=>h) (.inl ⟨by rfl,λW hW=>by go_simp⟩) dd ?_;go_simp;refine Kc (i:=8) (v:=slv gk n ck) rfl (by kernel_rfl) (λ_ _ _ h=>h) (.inl ⟨by rfl,λW hW=>by have q0:=hW.cell y1;go_simp⟩) dd ?_;go_simp;refine Kc (i:=9) (v := .int .i64 j) rfl (by kernel_rfl) (λ_ _ _ h=>h) (.inl ⟨by rfl,λW hW=>by go_simp⟩) dd ?_;go_simp;refine Kc (i:=10) (v := .pointer (some ⟨gk,j*2,none⟩)) rfl (by kernel_rfl) (λ_ _ _ h=>h) (.inl ⟨by rfl,λW hW=>by go_simp⟩) dd ?_;go_simp;refine Kc (i:=11) (v:=RV x) rfl (by kernel_rfl) (λ_ _ _ h=>h) (.inl ⟨by rfl,λW hW=>by have q0:=hW.cell y2;have q1:=hW.cell y3;go_simp⟩) dd ?_;go_simp;refine Kc (i:=12) (v:=RV p) rfl (by kernel_rfl) (λ_ _ _ h=>h) (.inl ⟨by rfl,λW hW=>by have q0:=hW.cell t0;have q1:=hW.cell t1;go_simp⟩) dd ?_;go_simp;refine KA (i:=13) rfl (by kernel_rfl) (λK0 hK0 => ?_);go_simp;refine (Hdiv.out _ dd).mono ?_;rintro e Z2 ⟨rfl,hG4⟩;have dd2:=dd.trans hG4;refine hK0 _ _ (λ_=>dd2) ?_;clear hK0;refine KA (i:=14) rfl (by kernel_rfl) (λK0 hK0 => ?_);go_simp;refine hK0 _ _ (λ_=>dd2) ?_;clear hK0
         refine Kc (i:=15) (v:=RV xq) rfl (by kernel_rfl) (λ_ _ _ h=>h) (.inl ⟨by rfl,λW hW=>by go_simp⟩) dd2 ?_;go_simp;refine Kc (i:=17) (v := .pointer (some ⟨gk,j*2,none⟩)) rfl (by kernel_rfl) (λ_ _ _ h=>h) (.inl ⟨by rfl,λW hW=>by go_simp⟩) dd2 ?_;go_simp;obtain ⟨f0,f1,HP,Hgr,hgB,hgb⟩:=Hput.out _ dd2;have hO2:=hid ((hOj.out.ext dd2).other Hgr.out (by omega));have hE2:=Kb (hEj.trans dd2) Hgr.out hgB;have HP2:=hid HP.out;rw [Hxq.out,KjL p hR2.out (by omega) hjn] at HP2;rw [<-Hxq.out] at HP2;have y2:=dd2.cell y2;have y3:=dd2.cell y3;have hEq:Hid (Ext w0 ((Z2.setCell ⟨gk,j*2,none⟩ (I xq.num)).setCell ⟨gk,j*2+1,none⟩ (I xq.den))):=hid hE2;clear Hput Hdiv dd hG4 y1 t0 t1 hE2 HP Hgr hEj hOj hMj;refine Jz (i:=16) (j:=18) rfl rfl (by kernel_rfl) (λK0 hK0 => ?_) (λK0 hK0 => ?_)
         ·go_simp;refine hK0 _ _ (λ_=>dd2) ?_;clear hK0;refine KA (i:=18) rfl (by kernel_rfl) (λK0 hK0 => ?_);go_simp;refine hK0 _ _ (λhh=>by cases hh) ?_;clear hK0;refine QD (by kernel_rfl) ?_;go_wp2_with fail;go_roundw
          case rel=>exact ⟨j+1,by omega,by go_num,HP2,hO2,hEq.out⟩
          case measure=>simp [intOf]<;>omega
         ·go_simp;refine hK0 _ _ (λhh=>by cases hh) ?_;clear hK0;refine KA (i:=16) rfl (by kernel_rfl) (λK0 hK0 => ?_);go_simp;refine hK0 _ _ (λhh=>by cases hh) ?_;clear hK0;refine QD (by kernel_rfl) ?_;go_wp2_with fail;go_roundw
          case rel=>exact ⟨j+1,by omega,by go_num,HP2,hO2,hEq.out⟩
          case measure=>simp [intOf]<;>omega
        ·obtain rfl:j=n:=by omega
         obtain ⟨F3,hF3⟩ : ∃F3,F3=F2.set lead.length (ZI (F2.getD lead.length []) p j):=⟨_,rfl⟩
         have HF3:=hid hF3;have hF3l:F3.length=m:=by rw [hF3,List.length_set,hF2]
         have hR3:=hid (show QG j F3 by rw [hF3];exact KjK p j hR2.out (by omega));have hB3:BdQ (2*bnd E c) F3:=by rw [hF3,Hp.out];exact hI3.out.1.bd.div (Xw h1 c) hI3.out.2
         have h36:6*bnd E c+1<=bnd E cols:=ZM E (show c+1<=cols by omega);have h37:6*bnd E cols<=(cols+6)*bnd E cols:=Nat.mul_le_mul_right _ (by omega);have hpos:=Xw h1 c;have hBQ:=hid (show ∀i j',NdQ (2*bnd E c) (qa F3 i j') from λi j'=>hB3.qa (by omega) i j');have h38:4*bnd E c<=100000000:=by have:=Hbd.out;omega
         rw [<-hF3] at hMj;clear hF3 hB3 h36 h37;go_wp2_with fail
         go_loopw [103] (λidx wr => ∃(i:Nat),i<=m/\idx = .int .i64 i/\Hid (RqM w0.heap.size g cap j b5 (Kr F3 j lead.length c i) ad2 (.slice ga lead.length gc) (ldI lead) dx wr)/\Ext w0 wr) (λidx _=>m-(intOf idx).toNat)
         case atStart=>exact ⟨0,by omega,by go_num,hid (by rw [JT];exact hMj.out),hEj⟩
         case round =>
          clear hMj hOj hEj;obtain ⟨i,hi,rfl,hMi,hEi⟩:=hrel;generalize wr=Z at *
          by_cases him:i<m
          ·have himi:(i:Int)<(m:Int):=by omega
           have hel:i<(Kr F3 j lead.length c i).length:=by rw [QX];omega
           obtain ⟨gi,ci,ei,z1,z2,z3,_,hgib⟩:=hMi.out.el (i:=i) hel hcn;have Hci:=hid (hMi.out.room hn0 hel ei);obtain ⟨f,hf⟩ : ∃f,f=qa F3 i c:=⟨_,rfl⟩
           have hrow:=hid (Kmr (n:=j) (c:=c) (show i<F3.length by omega) (show lead.length<F3.length by omega));have hfe:qa (Kr F3 j lead.length c i) i c=f:=by unfold qa;rw [hrow.out.1,hf];rfl
           rw [hfe] at z2 z3;have Hf:=hid hf;have HP12:=hid (Zg Z (I f.num) (I f.den));have hb12:b5<Z.heap.size:=by have:=hMi.out.det.lt;omega
           have eA:Ext Z (Z.alloc (.cells #[I f.num,I f.den] 47)):=(Ext.refl Z).alloc _;have hszZ:w0.heap.size<=Z.heap.size:=hEi.size;clear hf hfe;go_upto_region 25 with fail;generalize Z.alloc (.cells #[I f.num,I f.den] _)=Z1 at *;obtain ⟨b12,hb12q⟩ : ∃b12,b12=Z.heap.size:=⟨_,rfl⟩
           rw [<-hb12q] at HP12 hb12 hszZ ⊢;clear hb12q;have hMi1:=hid (hMi.out.ext eA);have hEi1:=hEi.trans eA;obtain ⟨s0,s1,_,_⟩:=Ky HP12.out;clear z1 z2 z3 hMi hEi eA
           by_cases hik:i=lead.length
           ·have hiki:(i:Int)=(lead.length:Int):=by omega
            have hikb:((i:Int)==(lead.length:Int))=true:=by simp [hik]
            have Hik:=hid hik;clear hik hrow;go_wp2_with fail;go_roundw
            case rel=>exact ⟨i+1,by omega,by go_num,hid (by rw [<-XC (.inl Hik.out)];exact hMi1.out),hEi1⟩
            case measure=>simp [intOf]<;>omega
           ·have hiki:(i:Int)≠(lead.length:Int):=by omega
            have hikb:((i:Int)==(lead.length:Int))=false:=beq_eq_false_iff_ne.2 hiki;have hsg:f.num.sign=0↔f=0:=by rw [Int.sign_eq_zero_iff_zero,Rat.num_eq_zero]
            obtain ⟨sg,hsq⟩ : ∃sg,sg=f.num.sign:=⟨_,rfl⟩
            have hsn:=hid (YF f);rw [<-hsq] at hsg hsn;have Hq:=hid hsg;clear hsq hsg;go_wp2_with fail;refine (hsn.out _).mono ?_;rintro e Z2 ⟨rfl,hE6⟩;have hMi2:=hid (hMi1.out.ext hE6);have hEi2:=hEi1.trans hE6;have HP2:=hid ((HP12.out.ext hE6).mono hszZ);clear hsn hMi1 hEi1 hE6 s0 s1 HP12
            by_cases hs0:sg=0
            ·have hz0:=hid (Hq.out.1 hs0);subst hs0;clear Hq;go_wp2_with fail;go_roundw
             case rel=>exact ⟨i+1,by omega,by go_num,hid (by rw [<-XC (.inr (by rw [<-Hf.out];exact hz0.out))];exact hMi2.out),hEi2⟩
             case measure=>simp [intOf]<;>omega
            ·clear Hq;have Hs0:=hid hs0;have hsgb:(sg==0)=false:=by simp [hs0]
             obtain ⟨gi',ci',ei',z1,_,_,_,_⟩:=hMi2.out.el (i:=i) hel hcn;rw [ei] at ei';injection ei' with ei'
             injection ei' with q1 q2
             subst q1 q2;go_wp2_with fail
             go_loopw [126] (λidx wr => ∃(u:Nat),u<=j/\idx = .int .i64 u/\Hid (RqM w0.heap.size g cap j b5 ((Kr F3 j lead.length c i).set i (Xj ((Kr F3 j lead.length c i).getD i []) f ((Kr F3 j lead.length c i).getD lead.length []) u)) ad2 (.slice ga lead.length gc) (ldI lead) dx wr)/\Hid (Kd 47 w0.heap.size wr b12 2 [I f.num,I f.den])/\Ext w0 wr) (λidx _=>j-(intOf idx).toNat)
             case atStart=>exact ⟨0,by omega,by go_num,hid (by rw [KfL,KbA];exact hMi2.out),HP2,hEi2⟩
             case round =>
              clear hMi2 HP2 hEi2 z1 Hs0 hs0 hsgb;obtain ⟨u,hu,rfl,hMu,hOu,hEu⟩:=hrel;generalize wr=V at *
              by_cases huj:u<j
              ·have huji:(u:Int)<(j:Int):=by omega
               have hFl : ∀r,i<((Kr F3 j lead.length c i).set i r).length:=λr=>by rw [List.length_set];exact hel
               have hFk : ∀r,lead.length<((Kr F3 j lead.length c i).set i r).length:=λr=>by rw [List.length_set,QX];omega
               have hkE:lead.length<(Kr F3 j lead.length c i).length:=by rw [QX];omega
               have hRE:=Yx (n:=j) (k:=lead.length) (c:=c) (i:=i) hR3.out;obtain ⟨gi',ci',ei',z1,z2,z3,_,_⟩:=hMu.out.el (i:=i) (hFl _) huj;rw [ei] at ei';injection ei' with ei'
               injection ei' with q1 q2
               subst q1 q2;obtain ⟨gk',ck',ek',y1,y2,y3,_,_⟩:=hMu.out.el (i:=lead.length) (hFk _) huj;rw [ek] at ek';injection ek' with ek'
               injection ek' with q1 q2
               subst q1 q2;obtain ⟨x,hx⟩ : ∃x,x=qa (Kr F3 j lead.length c i) i u:=⟨_,rfl⟩
               obtain ⟨y,hy⟩ : ∃y,y=qa (Kr F3 j lead.length c i) lead.length u:=⟨_,rfl⟩
               rw [Krc f hRE hel hkE,<-hx] at z2 z3;rw [Krd f hel hik,<-hy] at y2 y3;have hxQ:NdQ (2*bnd E c) x:=by rw [hx];unfold qa;rw [hrow.out.1];exact hBQ.out i u
               have hyQ:NdQ (2*bnd E c) y:=by rw [hy];unfold qa;rw [hrow.out.2];exact hBQ.out _ u
               have hfQ:NdQ (2*bnd E c) f:=by rw [Hf.out];exact hBQ.out _ _
               have hxS:=hid (hxQ.smQ (by omega));have hyS:=hid (hyQ.smQ (by omega));have hfS:=hid (hfQ.smQ (by omega));have hfyS:=hid ((hfQ.mul hyQ).smQ (by omega));obtain ⟨t0,t1,_,_⟩:=Ky hOu.out;obtain ⟨fy,hfy⟩ : ∃fy,fy=f*y:=⟨_,rfl⟩
               obtain ⟨xq,hxq⟩ : ∃xq,xq=x-fy:=⟨_,rfl⟩
               have Hxq:=hid (show xq=qa (Kr F3 j lead.length c i) i u-f*qa (Kr F3 j lead.length c i) lead.length u by rw [hxq,hfy,hx,hy]);rw [<-hfy] at hfyS;have Hmu:=hid (λX (hX:Ext V X)=>KaY hfS.out hyS.out (w:=X) (HL.out.ext (hEu.trans hX)));have Hsu:=hid (λX (hX:Ext V X)=>Jq hxS.out hfyS.out (w:=X) (HL.out.ext (hEu.trans hX)));rw [<-hfy] at Hmu;rw [<-hxq] at Hsu;have Hput:=hid (λX (hX:Ext V X)=>(hMu.out.ext hX).put (hFl _) huj ei xq);have hci:j<=ci:=Hci.out;have hck:j<=ck:=Hck.out;have Hst:=hid (Kkb (F:=Kr F3 j lead.length c i) (i:=i) (k:=lead.length) (j:=u) f hRE hel huj);clear hx hy hfy hxq hRE hxQ hyQ hfQ hFl hFk;go_wp2_with fail;have dd:Ext V V.drew:=(Ext.refl V).drew;refine Z8 (S:=λW=>Ext V W) 23 24 (by kernel_rfl) (by kernel_rfl) ?_;generalize V.drew=V1 at *;refine Kc (i:=0) (v:=slv g m cap) rfl (by kernel_rfl) (λ_ _ _ h=>h) (.inl ⟨by rfl,λW hW=>by go_simp⟩) dd ?_;go_simp;refine Kc (i:=1) (v := .int .i64 i) rfl (by kernel_rfl) (λ_ _ _ h=>h) (.inl ⟨by rfl,λW hW=>by go_simp⟩) dd ?_;go_simp;refine Kc (i:=2) (v := .pointer (some ⟨g,i,none⟩)) rfl (by kernel_rfl) (λ_ _ _ h=>h) (.inl ⟨by rfl,λW hW=>by go_simp⟩) dd ?_;go_simp;refine Kc (i:=3) (v:=slv gi j ci) rfl (by kernel_rfl) (λ_ _ _ h=>h) (.inl ⟨by rfl,λW hW=>by have q0:=hW.cell z1;go_simp⟩) dd ?_;go_simp
               refine Kc (i:=4) (v := .int .i64 u) rfl (by kernel_rfl) (λ_ _ _ h=>h) (.inl ⟨by rfl,λW hW=>by go_simp⟩) dd ?_;go_simp;refine Kc (i:=5) (v:=slv g m cap) rfl (by kernel_rfl) (λ_ _ _ h=>h) (.inl ⟨by rfl,λW hW=>by go_simp⟩) dd ?_;go_simp;refine Kc (i:=6) (v := .int .i64 i) rfl (by kernel_rfl) (λ_ _ _ h=>h) (.inl ⟨by rfl,λW hW=>by go_simp⟩) dd ?_;go_simp;refine Kc (i:=7) (v := .pointer (some ⟨g,i,none⟩)) rfl (by kernel_rfl) (λ_ _ _ h=>h) (.inl ⟨by rfl,λW hW=>by go_simp⟩) dd ?_;go_simp;refine Kc (i:=8) (v:=slv gi j ci) rfl (by kernel_rfl) (λ_ _ _ h=>h) (.inl ⟨by rfl,λW hW=>by have q0:=hW.cell z1;go_simp⟩) dd ?_;go_simp;refine Kc (i:=9) (v := .int .i64 u) rfl (by kernel_rfl) (λ_ _ _ h=>h) (.inl ⟨by rfl,λW hW=>by go_simp⟩) dd ?_;go_simp;refine Kc (i:=10) (v := .pointer (some ⟨gi,u*2,none⟩)) rfl (by kernel_rfl) (λ_ _ _ h=>h) (.inl ⟨by rfl,λW hW=>by go_simp⟩) dd ?_;go_simp;refine Kc (i:=11) (v:=RV x) rfl (by kernel_rfl) (λ_ _ _ h=>h) (.inl ⟨by rfl,λW hW=>by have q0:=hW.cell z2;have q1:=hW.cell z3;go_simp⟩) dd ?_;go_simp;refine Kc (i:=12) (v:=RV f) rfl (by kernel_rfl) (λ_ _ _ h=>h) (.inl ⟨by rfl,λW hW=>by have q0:=hW.cell t0;have q1:=hW.cell t1;go_simp⟩) dd ?_;go_simp;refine Kc (i:=13) (v:=slv g m cap) rfl (by kernel_rfl) (λ_ _ _ h=>h) (.inl ⟨by rfl,λW hW=>by go_simp⟩) dd ?_;go_simp
               refine Kc (i:=14) (v := .int .i64 lead.length) rfl (by kernel_rfl) (λ_ _ _ h=>h) (.inl ⟨by rfl,λW hW=>by go_simp⟩) dd ?_;go_simp;refine Kc (i:=15) (v := .pointer (some ⟨g,lead.length,none⟩)) rfl (by kernel_rfl) (λ_ _ _ h=>h) (.inl ⟨by rfl,λW hW=>by go_simp⟩) dd ?_;go_simp;refine Kc (i:=16) (v:=slv gk j ck) rfl (by kernel_rfl) (λ_ _ _ h=>h) (.inl ⟨by rfl,λW hW=>by have q0:=hW.cell y1;go_simp⟩) dd ?_;go_simp;refine Kc (i:=17) (v := .int .i64 u) rfl (by kernel_rfl) (λ_ _ _ h=>h) (.inl ⟨by rfl,λW hW=>by go_simp⟩) dd ?_;go_simp;refine Kc (i:=18) (v := .pointer (some ⟨gk,u*2,none⟩)) rfl (by kernel_rfl) (λ_ _ _ h=>h) (.inl ⟨by rfl,λW hW=>by go_simp⟩) dd ?_;go_simp;refine Kc (i:=19) (v:=RV y) rfl (by kernel_rfl) (λ_ _ _ h=>h) (.inl ⟨by rfl,λW hW=>by have q0:=hW.cell y2;have q1:=hW.cell y3;go_simp⟩) dd ?_;go_simp;refine KA (i:=20) rfl (by kernel_rfl) (λK0 hK0 => ?_);go_simp;refine (Hmu.out _ dd).mono ?_;rintro e V2 ⟨rfl,hG4⟩;have dd2:=dd.trans hG4;refine hK0 _ _ (λ_=>dd2) ?_;clear hK0;refine KA (i:=21) rfl (by kernel_rfl) (λK0 hK0 => ?_);go_simp;refine (Hsu.out _ dd2).mono ?_;rintro e V3 ⟨rfl,hG5⟩;have dd3:=dd2.trans hG5;refine hK0 _ _ (λ_=>dd3) ?_;clear hK0;refine Kc (i:=22) (v := .pointer (some ⟨gi,u*2,none⟩)) rfl (by kernel_rfl) (λ_ _ _ h=>h) (.inl ⟨by rfl,λW hW=>by go_simp⟩) dd3 ?_;go_simp
               obtain ⟨f0,f1,HP,Hgr,hgB,hgb⟩:=Hput.out _ dd3;have hO2:=hid ((hOu.out.ext dd3).other Hgr.out (by omega));have hE2:=Kb (hEu.trans dd3) Hgr.out hgB;have HP2:=hid HP.out;rw [Hxq.out,Hst.out] at HP2;rw [<-Hxq.out] at HP2;have z2:=dd3.cell z2;have z3:=dd3.cell z3;have hEq:Hid (Ext w0 ((V3.setCell ⟨gi,u*2,none⟩ (I xq.num)).setCell ⟨gi,u*2+1,none⟩ (I xq.den))):=hid hE2;clear Hput Hmu Hsu dd dd2 hG4 hG5 y1 y2 y3 z1 t0 t1 hE2 HP Hgr hEu hOu hMu;refine KA (i:=23) rfl (by kernel_rfl) (λK0 hK0 => ?_);go_simp;refine hK0 _ _ (λhh=>by cases hh) ?_;clear hK0;refine QD (by kernel_rfl) ?_;go_wp2_with fail;go_roundw
               case rel=>exact ⟨u+1,by omega,by go_num,HP2,hO2,hEq.out⟩
               case measure=>simp [intOf]<;>omega
              ·obtain rfl:u=j:=by omega
               go_wp2_with fail;go_roundw
               case rel=>exact ⟨i+1,by omega,by go_num,hid (by
                have h5:=hMu.out;rw [hrow.out.1,hrow.out.2,Hf.out,JS hik] at h5
                exact h5),hEu⟩
               case measure=>simp [intOf]<;>omega
          ·obtain rfl:i=m:=by omega
           have hpe:Kr F3 j lead.length c i=JF F2 j lead.length c:=by
            unfold JF;rw [HF3.out,<-Hp.out,hF2]
           rw [hpe] at hMi;have Hll:=hid (KaW lead);have hll1:lead.length<=1000000:=by omega
           have hsz:=hEi.size;clear hpe;go_wp2_with (at_builtin;refine Y9 rfl _ _ 28 Tryz.underlying28 rfl rfl (hMi.out.lead.ext ((Ext.refl _).alloc _)) rfl (b:=Z.heap.size) (z:=c) (by go_simp) (by rw [Hll.out];omega) (by simp;omega) ?_;intro gg cap2 w8 hO8 hB8 hG8;rw [Hll.out] at hO8 ⊢)
           have hMe:=hid (RqM.app (hMi.ext ((Ext.refl Z).alloc (.cells #[.int .i64 (c:Int)] 3))) hG8 hO8);have hE8:Ext w0 w8:=Below.trans (hEi.alloc (.cells #[.int .i64 (c:Int)] 3)) hB8;clear hG8 hB8 hO8 hMi hEi;go_wp2_with fail;go_roundw
           case rel=>exact ⟨c+1,JF F2 j lead.length c,ad2,lead++[c],Qp*qa F2 lead.length c,by omega,by go_num,hid (hI3.out.1.piv h1 (by rw [<-Hm.out];exact hkm) hcn hI3.out.2 (by rw [<-KmX,<-Hp.out,<-Hdx.out];exact hMe.out)),hE8⟩
           case measure=>simp [intOf]<;>omega
    ·obtain rfl:a=m:=by omega
     have hMV':=hMV.out;clear hMV;obtain ⟨k0,k1,k2,k3⟩:=Ky hMV'.det;have HMV:=hid (λX (hX:Ext V X)=>(hMV'.ext hX).box ((hE1.trans hEV).trans hX) hb5w 0);have HZ:=hid (show ∀i,lead.length<=i->i<F.length->qa F1 i c=0 from λi h2 h3=>hz.out i h2 (by rw [Hm.out];exact h3));clear hMV' hz hE1 hEV d0 d1 fr0 fr1;go_wp2_with fail;refine (KlD _).mono ?_;rintro e V2 ⟨rfl,hE3⟩;have k2:V2.frozen? ⟨b5,0,none⟩=false:=by rw [hE3.frozen (World.block_lt_of_cell? _ _ k0)];exact k2
     have k3:V2.frozen? ⟨b5,1,none⟩=false:=by rw [hE3.frozen (World.block_lt_of_cell? _ _ k1)];exact k3
     have k0:=hE3.cell k0;have k1:=hE3.cell k1;obtain ⟨hB,hEB⟩:=HMV.out _ hE3;rw [show (0:Rat).num=0 from rfl,show (((0:Rat).den:Nat):Int)=1 from rfl] at hB hEB;have HB:=hid hB;clear hB hE3 HMV;go_wp2_with fail;go_roundw
     case rel=>exact ⟨c+1,F1,ad1,lead,0,by omega,by go_num,hid (hI.out.skip HB.out.out HZ.out),hEB⟩
     case measure=>simp [intOf]<;>omega
  ·obtain rfl:c=cols:=by omega
   have HI:=hI;obtain ⟨hB,hEB⟩:=hI.out.mem.box hE1 hb5w det;have hB2:RqM w0.heap.size g cap n b5 F1 ad1 (.slice ga lead.length gc) (ldI lead) det ((U.setCell ⟨b5,0,none⟩ (.string ⟨(Lib.itoa det.num).toArray⟩)).setCell ⟨b5,1,none⟩ (.string ⟨(Lib.itoa det.den).toArray⟩)):=hB.out;have hE2:Ext w0 ((U.setCell ⟨b5,0,none⟩ (.string ⟨(Lib.itoa det.num).toArray⟩)).setCell ⟨b5,1,none⟩ (.string ⟨(Lib.itoa det.den).toArray⟩)):=hEB;have HB2:=hid hB2;clear hB hEB hB2;go_wp2_with fail
   go_region
   generalize World.setCell (World.setCell U _ _) _ _=W5 at *;have hM3:=HB2.out.ext ((Ext.refl W5).drew);have hE3:=hE2.drew;obtain ⟨r0,r1,_,_⟩:=Ky hM3.det;generalize W5.drew=W6 at *;clear hE2 HB2;have Hres:=hid (show KlQ w0 g cap n c E F (.returned (.tuple #[.slice ga lead.length gc,RV det])) W6 from ⟨lead,F1,ad1,det,_,rfl,by have:=hM3.grid;rw [hF1,Hm.out] at this;exact this,hI.out.red,hI.out.same,hI.out.bd,hM3.lead,hE3⟩);clear hM3;go_wp2_with fail;refine bodyPost_ret (v := .tuple #[.slice ga lead.length gc,RV det]) (by simp [results,Tryz.results48,go_sem,r0,r1]) rfl Hres.out
end
end Go.Proofs.YtdmaofimeknkbaaGreatDoor
