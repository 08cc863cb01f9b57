/- Part 35 of the proof of the claim: contracts of the functions that it reaches, and plain laws; no condition. -/
import Derived.Test.YtdmaofimeknkbaaGreatDoorQ12
import Derived.Test.YtdmaofimeknkbaaGreatDoorQ10
import Derived.Test.YtdmaofimeknkbaaGreatDoorQ13
import Derived.BigQuiet
import Derived.Test.YtdmaofimeknkbaaGreatDoorQ26
import Derived.Test.YtdmaofimeknkbaaGreatDoorQ17
import Derived.Test.YtdmaofimeknkbaaGreatDoorQ14
import Derived.Test.YtdmaofimeknkbaaGreatDoorQ15
import Derived.Test.YtdmaofimeknkbaaGreatDoorQ18
set_option maxRecDepth 100000
set_option maxHeartbeats 20000000
namespace Go.Proofs.YtdmaofimeknkbaaGreatDoor
section
open Go.RowKit Go.Sort
open Lib (hid)
theorem KJ.elZ {w:World} {sa:Option Addr} {n cap c:Nat} {F:Mx} (h:KJ w (.slice sa n cap) F) (hn:n=F.length) (hR:Ku c F) (hc:0<c) : ∃gb go,(0<n->sa=some ⟨gb,go,none⟩) /\ ∀i,i<n -> ∃gr or cr,w.cell? ⟨gb,go+i,none⟩=some (.slice (some ⟨gr,or,none⟩) c cr) /\ ∀k,k<c->w.cell? ⟨gr,or+k,none⟩=some (.int .i64 (eM F i k)):=by
 obtain ⟨sa',gb,go,cap',vs,e,hcap,hvl,hS,hr⟩:=h;injection e with e1 e2 e3
 subst e1;refine ⟨gb,go,λh0=>hS.addr (by omega),λi hi => ?_⟩;obtain ⟨sr,br,or,cr,hrow,hrc,hSr⟩:=KJ.row hS hvl hr (show i<F.length by omega);have hl:F[i].length=c:=hR _ (List.getElem_mem _);rw [hl] at hrow;obtain rfl:=hSr.addr (by rw [Kq];omega);refine ⟨br,or,cr,hrow,λk hk => ?_⟩;have:=hSr.cell k _ (Qg (p:=F[i]) (by omega));rw [this];unfold eM;rw [Ka (show i<F.length by omega),Ka (by omega)]
def JA (M:Mx):Int:=eM M 0 0*eM M 1 1-eM M 0 1*eM M 1 0
theorem YL {M:Mx} {B:Nat} (h : ∀r∈M,∀z∈r,z.natAbs<=B) (i j:Nat):(eM M i j).natAbs<=B:=by
 unfold eM;rw [List.getD_eq_getElem?_getD,List.getD_eq_getElem?_getD]
 by_cases hi:i<M.length
 ·rw [List.getElem?_eq_getElem hi];show ((M[i])[j]?.getD 0).natAbs<=B
  by_cases hj:j<M[i].length
  ·rw [List.getElem?_eq_getElem hj];exact h _ (List.getElem_mem hi) _ (List.getElem_mem hj)
  ·rw [List.getElem?_eq_none (by omega)];simp
 ·rw [List.getElem?_eq_none (l:=M) (i:=i) (by omega)];simp
theorem KcG {a b:Int} (ha:a.natAbs<=1000000) (hb:b.natAbs<=1000000):(a*b).natAbs<=1000000000000:=by
 rw [Int.natAbs_mul];exact Nat.mul_le_mul ha hb
theorem KkF {w:World} {v:Value} {M:Mx} (hM:KJ w v M) (hl:M.length=2) (hR:Ku 2 M) (hB : ∀r∈M,∀z∈r,z.natAbs<=1000000) :
  Calls Tryz.prog 79 #[v] w λe w'=>e = .returned (.int .i64 (JA M))/\Ext w w':=by
 obtain ⟨sa,ln,cap,rfl⟩ : ∃sa ln cap,v = .slice sa ln cap:=by
  obtain ⟨sa,_,_,cap,_,e,_⟩:=hM;exact ⟨sa,_,cap,e⟩
 have hln:ln=M.length:=by
  obtain ⟨_,_,_,_,_,e,_⟩:=hM;injection e
 rw [hl] at hln;subst hln;obtain ⟨gb,go,hsa,hrow⟩:=hM.elZ hl.symm hR (by omega);obtain rfl:=hsa (by omega);obtain ⟨g0,o0,c0,r0,k0⟩:=hrow 0 (by omega);obtain ⟨g1,o1,c1,r1,k1⟩:=hrow 1 (by omega);rw [Nat.add_zero] at r0;have k00:=k0 0 (by omega);have k01:=k0 1 (by omega);have k10:=k1 0 (by omega);have k11:=k1 1 (by omega);rw [Nat.add_zero] at k00 k10;have b00:=YL hB 0 0;have b01:=YL hB 0 1;have b10:=YL hB 1 0;have b11:=YL hB 1 1;have m1:=KcG b00 b11;have m2:=KcG b01 b10;have HD:=hid (show JA M=eM M 0 0*eM M 1 1-eM M 0 1*eM M 1 0 from rfl);obtain ⟨D,hD⟩ : ∃D,D=JA M:=⟨_,rfl⟩
 rw [<-hD] at HD ⊢;clear hD k0 k1 hrow hB hR hl b00 b01 b10 b11 hM hsa;generalize eM M 0 0=a at *;generalize eM M 0 1=b at *;generalize eM M 1 0=c at *;generalize eM M 1 1=d at *;have q0:=cell_regrown r0;have q1:=cell_regrown r1;have j0:=cell_regrown k00;have j1:=cell_regrown k01;have j2:=cell_regrown k10;have j3:=cell_regrown k11
 go_enter Tryz.func79,Tryz.ntmps79
 go_wp2_with fail
 go_quiet (fail)
 go_wp2_with fail;go_ret;exact ⟨by rw [HD.out];rfl,(Ext.refl w).drewN _⟩
def dt3 (M:Mx) (i j k:Nat):Int:=eM M 0 i*(eM M 1 j*eM M 2 k-eM M 1 k*eM M 2 j)
def Zx (M:Mx):Nat->Int
 | 0=>0
 | 1=>0+dt3 M 0 1 2
 | 2=>0+dt3 M 0 1 2+dt3 M 1 2 0
 | _=>0+dt3 M 0 1 2+dt3 M 1 2 0+dt3 M 2 0 1
theorem KdF {M:Mx} (hB : ∀r∈M,∀z∈r,z.natAbs<=1000000) (i j k:Nat):(dt3 M i j k).natAbs<=2000000000000000000:=by
 have m1:=KcG (YL hB 1 j) (YL hB 2 k);have m2:=KcG (YL hB 1 k) (YL hB 2 j);unfold dt3;rw [Int.natAbs_mul];exact Nat.le_trans (Nat.mul_le_mul (YL hB 0 i) (show _<=2000000000000 by omega)) (by omega)
theorem Kg1 {w:World} {v:Value} {M:Mx} (hM:KJ w v M) (hl:M.length=3) (hR:Ku 3 M) (hB : ∀r∈M,∀z∈r,z.natAbs<=1000000) :
  Calls Tryz.prog 79 #[v] w λe w'=>e = .returned (.int .i64 (Zx M 3))/\Ext w w':=by
 obtain ⟨sa,ln,cap,rfl⟩ : ∃sa ln cap,v = .slice sa ln cap:=by
  obtain ⟨sa,_,_,cap,_,e,_⟩:=hM;exact ⟨sa,_,cap,e⟩
 have hln:ln=M.length:=by
  obtain ⟨_,_,_,_,_,e,_⟩:=hM;injection e
 rw [hl] at hln;subst hln;obtain ⟨gb,go,hsa,hrow⟩:=hM.elZ hl.symm hR (by omega);obtain rfl:=hsa (by omega);obtain ⟨g0,o0,c0,r0,k0⟩:=hrow 0 (by omega);obtain ⟨g1,o1,c1,r1,k1⟩:=hrow 1 (by omega);obtain ⟨g2,o2,c2,r2,k2⟩:=hrow 2 (by omega);rw [Nat.add_zero] at r0;have HB:=hid hB
 have HS:=hid (show ∀i,(Zx M i).natAbs<=6000000000000000000 from λi=>by
  have b1:=KdF hB 0 1 2;have b2:=KdF hB 1 2 0;have b3:=KdF hB 2 0 1
  match i with
  | 0=>simp [Zx]
  | 1=>show (0+dt3 M 0 1 2).natAbs<=_;omega
  | 2=>show (0+dt3 M 0 1 2+dt3 M 1 2 0).natAbs<=_;omega
  | i+3=>show (0+dt3 M 0 1 2+dt3 M 1 2 0+dt3 M 2 0 1).natAbs<=_;omega)
 have HK0:=hid k0;have HK1:=hid k1;have HK2:=hid k2;clear hrow hB hR hl hM hsa k0 k1 k2
 have step : ∀(i j k:Nat),i<3->j<3->k<3 -> ∃a b c d e:Int,(w.cell? ⟨g0,o0+i,none⟩=some (.int .i64 a)/\w.cell? ⟨g1,o1+j,none⟩=some (.int .i64 b)/\w.cell? ⟨g2,o2+k,none⟩=some (.int .i64 c)/\w.cell? ⟨g1,o1+k,none⟩=some (.int .i64 d)/\w.cell? ⟨g2,o2+j,none⟩=some (.int .i64 e)) /\
   a*(b*c-d*e)=dt3 M i j k/\(b*c).natAbs<=1000000000000/\(d*e).natAbs<=1000000000000/\(a*(b*c-d*e)).natAbs<=2000000000000000000:=λi j k hi hj hk =>
  ⟨eM M 0 i,eM M 1 j,eM M 2 k,eM M 1 k,eM M 2 j,⟨HK0.out i hi,HK1.out j hj,HK2.out k hk,HK1.out k hk,HK2.out j hj⟩,rfl,KcG (YL HB.out 1 j) (YL HB.out 2 k),KcG (YL HB.out 1 k) (YL HB.out 2 j),KdF HB.out i j k⟩
 have Z9:=hid step;clear step
 go_enter Tryz.func79,Tryz.ntmps79
 go_wp2_with fail
 go_loopw [3,4] (λsv iv wr => ∃i:Nat,i<=3/\iv = .int .i64 i/\sv = .int .i64 (Zx M i)/\Ext w wr) (λ_ iv _=>3-(intOf iv).toNat)
 case atStart=>exact ⟨0,by omega,by go_num,rfl,Ext.refl _⟩
 case round =>
  obtain ⟨i,hi,rfl,rfl,hE⟩:=hrel;generalize wr=X at *;have m0:=HS.out i;have r0:=hE.cell r0;have r1:=hE.cell r1;have r2:=hE.cell r2;have hi4:i=0\/i=1\/i=2\/i=3:=by omega
  rcases hi4 with rfl | rfl | rfl | rfl
  ·obtain ⟨a,b,c,d,e,⟨x0,x1,x2,x3,x4⟩,ht,m1,m2,m3⟩:=Z9.out 0 1 2 (by omega) (by omega) (by omega);have Ht:=hid (show Zx M 1=Zx M 0+a*(b*c-d*e) by rw [ht];rfl);rw [Nat.add_zero] at x0;rw [show (((0:Nat)):Int)=0 from rfl];obtain ⟨s,hs⟩ : ∃s,s=Zx M 0:=⟨_,rfl⟩
   rw [<-hs] at m0 Ht ⊢;clear ht hs;have y0:=hE.cell x0;have j0:=cell_regrown y0;have y1:=hE.cell x1;have j1:=cell_regrown y1;have y2:=hE.cell x2;have j2:=cell_regrown y2;have y3:=hE.cell x3;have j3:=cell_regrown y3;have y4:=hE.cell x4;have j4:=cell_regrown y4;have q0:=cell_regrown r0;have q1:=cell_regrown r1;have q2:=cell_regrown r2;go_wp2_with fail
   go_quiet (fail)
   go_wp2_with fail;go_roundw
   case rel=>exact ⟨1,by omega,by go_num,by rw [Ht.out],hE.drewN _⟩
   case measure=>simp [intOf]<;>omega
  ·obtain ⟨a,b,c,d,e,⟨x0,x1,x2,x3,x4⟩,ht,m1,m2,m3⟩:=Z9.out 1 2 0 (by omega) (by omega) (by omega);have Ht:=hid (show Zx M 2=Zx M 1+a*(b*c-d*e) by rw [ht];rfl);rw [Nat.add_zero] at x2 x3;rw [show (((1:Nat)):Int)=1 from rfl];obtain ⟨s,hs⟩ : ∃s,s=Zx M 1:=⟨_,rfl⟩
   rw [<-hs] at m0 Ht ⊢;clear ht hs;have y0:=hE.cell x0;have j0:=cell_regrown y0;have y1:=hE.cell x1;have j1:=cell_regrown y1;have y2:=hE.cell x2;have j2:=cell_regrown y2;have y3:=hE.cell x3;have j3:=cell_regrown y3;have y4:=hE.cell x4;have j4:=cell_regrown y4;have q0:=cell_regrown r0;have q1:=cell_regrown r1;have q2:=cell_regrown r2;go_wp2_with fail
   go_quiet (fail)
   go_wp2_with fail;go_roundw
   case rel=>exact ⟨2,by omega,by go_num,by rw [Ht.out],hE.drewN _⟩
   case measure=>simp [intOf]<;>omega
  ·obtain ⟨a,b,c,d,e,⟨x0,x1,x2,x3,x4⟩,ht,m1,m2,m3⟩:=Z9.out 2 0 1 (by omega) (by omega) (by omega);have Ht:=hid (show Zx M 3=Zx M 2+a*(b*c-d*e) by rw [ht];rfl);rw [Nat.add_zero] at x1 x4;rw [show (((2:Nat)):Int)=2 from rfl];obtain ⟨s,hs⟩ : ∃s,s=Zx M 2:=⟨_,rfl⟩
   rw [<-hs] at m0 Ht ⊢;clear ht hs;have y0:=hE.cell x0;have j0:=cell_regrown y0;have y1:=hE.cell x1;have j1:=cell_regrown y1;have y2:=hE.cell x2;have j2:=cell_regrown y2;have y3:=hE.cell x3;have j3:=cell_regrown y3;have y4:=hE.cell x4;have j4:=cell_regrown y4;have q0:=cell_regrown r0;have q1:=cell_regrown r1;have q2:=cell_regrown r2;go_wp2_with fail
   go_quiet (fail)
   go_wp2_with fail;go_roundw
   case rel=>exact ⟨3,by omega,by go_num,by rw [Ht.out],hE.drewN _⟩
   case measure=>simp [intOf]<;>omega
  ·go_wp2_with fail;go_ret;exact ⟨rfl,hE⟩
theorem KeV {w:World} {sa:Option Addr} {gb go cap:Nat} {vs:List Value} {p:Nat->Bool} {k:Int} (hS:Sl w sa gb go vs) (hl:vs.length<=1000000)
  (hF : ∀i (h:i<vs.length) W,Ext w W->Calls Tryz.prog 31 #[vs[i]] W λe w'=>e = .returned (.bool (p i))/\Ext W w') (hk:IxR p vs.length k) :
  Calls Tryz.prog 54 #[.slice sa vs.length cap,.func (.func 31) #[] #[]] w λe w'=>e = .returned (.int .i64 k)/\Ext w w':=by
 have HF:=hid hF;have HK:=hid hk;have HS:=hid hS;clear hF hk hS
 go_enter Tryz.func54,Tryz.ntmps54
 go_wp2_with fail
 go_loopw [8] (λidx wr => ∃i:Nat,i<=vs.length/\idx = .int .i64 i/\Hid (∀j,j<i->p j=false)/\Ext w wr) (λidx _=>vs.length-(intOf idx).toNat)
 case atStart=>exact ⟨0,by omega,by go_num,hid (λj h=>by omega),Ext.refl _⟩
 case round =>
  obtain ⟨i,hi,rfl,Hp,hE⟩:=hrel;generalize wr=X at *
  by_cases hlt:i<vs.length
  ·have hii:(i:Int)<(vs.length:Int):=by omega
   obtain ⟨u,hu⟩ : ∃u,u=vs[i]:=⟨_,rfl⟩
   have hc:=hE.cell (HS.out.cell i u (by rw [hu];exact List.getElem?_eq_getElem hlt));obtain rfl:=HS.out.addr (by omega);have hf:=HF.out i hlt X hE;rw [<-hu] at hf;have Hf:=hid hf;clear hf hu
   cases hpi:p i
   ·rw [hpi] at Hf;have Hpi:=hid hpi;clear hpi;go_wp2_with fail;refine Hf.out.mono ?_;rintro e W ⟨rfl,hE2⟩;go_wp2_with fail;go_roundw
    case rel=>exact ⟨i+1,by omega,by go_num,hid (λj hj=>by
     by_cases e:j=i
     ·subst e;exact Hpi.out
     ·exact Hp.out j (by omega)),hE.trans hE2⟩
    case measure=>simp [intOf]<;>omega
   ·rw [hpi] at Hf;have Hki:=hid (JH HK.out hlt hpi Hp.out);clear hpi;go_wp2_with fail;refine Hf.out.mono ?_;rintro e W ⟨rfl,hE2⟩;go_wp2_with fail;go_ret;exact ⟨by rw [Hki.out];rfl,hE.trans hE2⟩
  ·have Hki:=hid (JI HK.out (λj hj=>Hp.out j (by omega)));go_wp2_with fail;go_ret;exact ⟨by rw [Hki.out];rfl,hE⟩
theorem KbT {w:World} {sa:Option Addr} {gb go cap:Nat} {vs:List Value} {p:Nat->Bool} (hS:Sl w sa gb go vs) (hl:vs.length<=1000000)
  (hF : ∀i (h:i<vs.length) W,Ext w W->Calls Tryz.prog 31 #[vs[i]] W λe w'=>e = .returned (.bool (p i))/\Ext W w') :
  Calls Tryz.prog 30 #[.slice sa vs.length cap,.func (.func 31) #[] #[]] w λe w'=>e = .returned (.bool (JJ p vs.length))/\Ext w w':=by
 obtain ⟨k,hk⟩:=KbP p vs.length;have Hge:=hid (Kdm hk);have HI:=hid (KeV (cap:=cap) hS hl hF hk);clear hS hF hk
 go_enter Tryz.func30,Tryz.ntmps30
 go_wp2_with fail;refine HI.out.mono ?_;rintro e W ⟨rfl,hE⟩;go_wp2_with fail;go_ret;exact ⟨by rw [<-Hge.out];rfl,hE⟩
theorem Kro {R:Mx} (hm : ∀r∈R,∀z∈r,-9<=z/\z<=9):SmK R:=λr hr z hz=>by have:=hm r hr z hz;omega
theorem Krl {R:Mx} {n:Nat} (hR:Ku n R) (hn:n<=4) (hm : ∀r∈R,∀z∈r,-9<=z/\z<=9) : ∀r∈R,QW r=0/\r.length=n:=λr hr=>by
 have hg:r.any grt=false:=by
  cases h:r.any grt
  ·rfl
  ·obtain ⟨z,hz,hg⟩:=List.any_eq_true.1 h;have:=hm r hr z hz;unfold grt at hg;have:=of_decide_eq_true hg;omega
 have h2:=hR r hr;refine ⟨?_,h2⟩;unfold QW;rw [if_neg (by omega),hg];rfl
theorem Kre {T:TypeId} {g B:Nat} {W:World} {a b:Value} (h:Kd T B W g 2 [a,b]) (x y:Value) :
  Kd T B ((W.setCell ⟨g,0,none⟩ x).setCell ⟨g,1,none⟩ y) g 2 [x,y]/\W.grownBy ((W.setCell ⟨g,0,none⟩ x).setCell ⟨g,1,none⟩ y) (some g):=by
 obtain ⟨h1,g1⟩:=h.set 0 x;obtain ⟨h2,g2⟩:=h1.set 1 y;exact ⟨h2,Kg g1 g2⟩
theorem KH.slice {B:Nat} {w:World} {v:Value} {r:List Int} (h:KH B w v r) : ∃a l k,v = .slice a l k:=by
 rcases h.2 with ⟨rfl,_⟩ | ⟨g,cap,cur,rfl,_⟩
 ·exact ⟨_,_,_,rfl⟩
 ·exact ⟨_,_,_,rfl⟩
theorem Kns {w w':World} {q g n c:Nat} {r:List Int} (h:KT w (slv g n c) r) (hG:w.grownBy w' (some q)) (hne:g≠q):KT w' (slv g n c) r:=by
 obtain ⟨sa,gb,go,cap,he,hc,hS⟩:=h;injection he with e1 e2 e3
 subst e2 e3;refine ⟨_,gb,go,c,rfl,hc,λh0=>(by rw [e1];exact hS.addr h0),λi x hx => ?_⟩;have h0:0<(is r).length:=by have:=(List.getElem?_eq_some_iff.1 hx).1;omega
 have h1:=hS.addr h0;rw [<-e1] at h1;injection h1 with h1
 injection h1 with h1 h2
 subst h1 h2;exact Kl hG hne (hS.cell i x hx)
def MzS (n:Nat) (x:List Int):Prop:=x.length=n /\ ∀z∈x,-1000<=z/\z<=1000
theorem Kgh {w:World} {vp:Value} {P:List Int} {b m cc:Nat} {xs:List (List Int)} (hP:KT w vp P) (hp0:0<P.length) (hp4:P.length<=4) (hpr : ∀x∈P,SmP x) (hinc : ∀i (h:i+1<P.length),P[i]'(by omega)<P[i+1]) (hm:xs.length=m) (hm4:m<=1000)
  (hb : ∀j (h:j<xs.length),∃v,w.cell? ⟨b,j,none⟩=some v/\KT w v xs[j]) (hs : ∀x∈xs,MzS P.length x) :
  Calls Tryz.prog 27 #[vp,.slice (some ⟨b,0,none⟩) m cc] w λe w'=>e = .returned (.int .i64 0)/\Ext w w':=by
 have hck:=hid (Kfq hP hp0 (by omega) hpr hinc);obtain ⟨sp,gp,op,cp,rfl,hpc,hSp⟩:=hP;obtain ⟨n,hn⟩ : ∃n,n=P.length:=⟨_,rfl⟩
 rw [<-hn] at hck hs ⊢;have Hb:=hid hb;have Hs:=hid hs;have Hm:=hid hm;have hn4:n<=4:=by omega
 clear hSp hs hb hn hpr hinc hp0 hp4 hpc hm
 go_enter Tryz.func27,Tryz.ntmps27
 go_wp2_with fail;refine hck.out.mono ?_;rintro e X ⟨rfl,hE1⟩;clear hck;go_wp2_with fail
 go_loopw [4,17] (λrv idx wr => ∃i:Nat,i<=m/\idx = .int .i64 i/\rv = .int .i64 0/\Ext X wr) (λ_ idx _=>m-(intOf idx).toNat)
 case atStart=>exact ⟨0,by omega,by go_num,rfl,Ext.refl _⟩
 case round =>
  obtain ⟨i,hi,rfl,rfl,hE⟩:=hrel;generalize wr=Y at *
  by_cases hlt:i<m
  ·have hii:(i:Int)<(m:Int):=by omega
   have hix:i<xs.length:=by rw [Hm.out];exact hlt
   obtain ⟨v,hv,hR⟩:=Hb.out i hix;obtain ⟨x,hx⟩ : ∃x,x=xs[i]:=⟨_,rfl⟩
   have hsx:=Hs.out x (by rw [hx];exact List.getElem_mem hix);rw [<-hx] at hR;obtain ⟨sx,gx,ox,cx,rfl,hxc,hSx⟩:=hR;have HSx:=hid hSx;have yb1:=hE.cell (hE1.cell hv);have Hl:=hid hsx.1;have Hz:=hid hsx.2;rw [hsx.1] at yb1;clear hSx hv hx hix hsx hxc hlt;go_wp2_with fail
   go_loopw [4,28] (λrv idx wr => ∃j:Nat,j<=n/\idx = .int .i64 j/\rv = .int .i64 0/\Ext Y wr) (λ_ idx _=>n-(intOf idx).toNat)
   case atStart=>exact ⟨0,by omega,by go_num,rfl,Ext.refl _⟩
   case round =>
    obtain ⟨j,hj,rfl,rfl,hE2⟩:=hrel;generalize wr=Z at *
    by_cases hjl:j<n
    ·have hji:(j:Int)<(n:Int):=by omega
     have hjx:j<x.length:=by rw [Hl.out];exact hjl
     obtain ⟨z,hz⟩ : ∃z,z=x[j]:=⟨_,rfl⟩
     have hcz:=((hE1.trans hE).trans hE2).cell (HSx.out.cell j (.int .i64 z) (by rw [hz];exact Qg hjx));obtain rfl:=HSx.out.addr (by simp;omega);have hzb:=Hz.out z (by rw [hz];exact List.getElem_mem hjx);have hz1 : ¬(1000:Int)<z:=by omega
     have hz2 : ¬z<(-1000:Int):=by omega
     clear hz hzb;go_wp2_with fail;go_roundw
     case rel=>exact ⟨j+1,by omega,by go_num,rfl,hE2⟩
     case measure=>simp [intOf]<;>omega
    ·obtain rfl:j=n:=by omega
     go_wp2_with fail;go_roundw
     case rel=>exact ⟨i+1,by omega,by go_num,rfl,hE.trans hE2⟩
     case measure=>simp [intOf]<;>omega
  ·obtain rfl:i=m:=by omega
   have hii : ¬(i:Int)<(i:Int):=by omega
   go_wp2_with fail;go_ret;exact ⟨rfl,hE1.trans hE⟩
theorem Kff (a b:Int) (w:World) :
  Calls Tryz.prog 86 #[.agg #[I a,I b]] w λe w'=>e = .returned (.int .i64 a.sign)/\Ext w w':=by
 have hs:=hid (ZJ a);generalize a.sign=sg at *;have hX:Ext w (w.alloc (.cells #[I a,I b] 47)):=(Ext.refl w).alloc _;have HO:=Qq w 47 (I a) (I b);have c0:(w.alloc (.cells #[I a,I b] 47)).cell? ⟨w.heap.size,0,none⟩=some (I a):=HO.cell (j:=0) (by simp);clear HO
 go_enter Tryz.func86,Tryz.ntmps86
 go_wp2_with fail;refine (hs.out _).mono ?_;rintro e w1 ⟨rfl,hE1⟩;go_wp2_with fail;go_ret;exact ⟨rfl,hX.trans hE1⟩
theorem Kmz {a b c d:Int} (ha:nd a<=100000000) (hb:nd b<=100000000) (hc:nd c<=100000000) (hd:nd d<=100000000) (hb0:0<b) (hc0:c≠0) {w:World} (hL:Laid w) :
  Calls Tryz.prog 89 #[.agg #[I a,I b],.agg #[I c,I d]] w λe w'=>e = .returned (.tuple #[.agg #[I (qn (a*d) (b*c)),I (qd (a*d) (b*c))],.int .i64 0])/\Ext w w':=by
 have HL:=hid hL;have n1:=QY a d;have n2:=QY b c;have hbd:b*c≠0:=Int.mul_ne_zero (by omega) hc0;have hl:=hid (λw hL=>Yy (n:=a*d) (d:=b*c) (w:=w) (by unfold LIM;omega) (by unfold LIM;omega) hbd hL);have hm1:=hid (λw hL=>ZR (a:=a) (b:=d) (w:=w) (by unfold LIM;omega) hL);have hm2:=hid (λw hL=>ZR (a:=b) (b:=c) (w:=w) (by unfold LIM;omega) hL);have hs:=hid (Kff c d);have hsg:(c.sign==0)=false:=beq_eq_false_iff_ne.2 (λh=>hc0 (Int.sign_eq_zero_iff_zero.1 h));generalize c.sign=sg at *;obtain ⟨x,hx⟩ : ∃x,x=qn (a*d) (b*c):=⟨_,rfl⟩
 obtain ⟨y,hy⟩ : ∃y,y=qd (a*d) (b*c):=⟨_,rfl⟩
 rw [<-hx,<-hy] at hl ⊢;clear hx hy n1 n2 hbd ha hb hc hd hb0 hc0 hL;obtain ⟨X,hXe,hX,c0,c1,c2,c3,hO⟩:=YU w 47 (I a) (I b) (I c) (I d) (.string ⟨#[]⟩) (.string ⟨#[]⟩);have HO:=hid hO;obtain ⟨bs,hbs⟩ : ∃bs,bs=w.heap.size:=⟨_,rfl⟩
 have hsz:=hX.size;clear hO
 go_enter Tryz.func89,Tryz.ntmps89
 go_wp2_with fail;rw [<-hbs] at c0 c1 c2 c3 HO ⊢;have hbs2:w.heap.size<=bs+1+1:=by omega
 clear hXe hbs;refine (hs.out _).mono ?_;rintro e w1 ⟨rfl,hE1⟩;replace c0:=hE1.cell c0;replace c1:=hE1.cell c1;replace c2:=hE1.cell c2;replace c3:=hE1.cell c3;replace HO:=hid (HO.out.ext hE1);replace hX:=hX.trans hE1;clear hE1;go_wp2_with fail;generalize w1=X at *;have d7:Ext X X.drew:=(Ext.refl X).drew;refine Ke (S:=λW=>Ext X W) 11 (by kernel_rfl) (by simp) ?_;intro inv;refine tkS (i:=0) (v := .pointer (some ⟨bs,0,none⟩)) rfl d7 inv ?_;intro inv;go_simp;refine tkA (i:=1) (v:=I a) rfl (.inl ⟨by rfl,λW hW=>by have z0:=hW.cell c0;go_simp⟩) d7 inv ?_;intro inv;go_simp;refine tkS (i:=2) (v := .pointer (some ⟨bs+1,1,none⟩)) rfl d7 inv ?_;intro inv;go_simp;refine tkA (i:=3) (v:=I d) rfl (.inl ⟨by rfl,λW hW=>by have z0:=hW.cell c3;go_simp⟩) d7 inv ?_;intro inv;go_simp;refine tkS (i:=5) (v := .pointer (some ⟨bs,1,none⟩)) rfl d7 inv ?_;intro inv;go_simp;refine tkA (i:=6) (v:=I b) rfl (.inl ⟨by rfl,λW hW=>by have z0:=hW.cell c1;go_simp⟩) d7 inv ?_;intro inv;go_simp;refine tkS (i:=7) (v := .pointer (some ⟨bs+1,0,none⟩)) rfl d7 inv ?_;intro inv;go_simp;refine tkA (i:=8) (v:=I c) rfl (.inl ⟨by rfl,λW hW=>by have z0:=hW.cell c2;go_simp⟩) d7 inv ?_;intro inv;go_simp;refine Kh (i:=4) rfl (by kernel_rfl) (λK0 hK0 => ?_);go_simp;refine (hm1.out _ (HL.out.ext (hX.trans d7))).mono ?_;rintro e w0 ⟨rfl,hF0⟩;have e0:=d7.trans hF0;refine hK0 _ _ e0 ?_;clear hK0;refine Kh (i:=9) rfl (by kernel_rfl) (λK1 hK1 => ?_);go_simp
 refine (hm2.out _ (HL.out.ext (hX.trans e0))).mono ?_;rintro e w1 ⟨rfl,hF1⟩;have e1:=e0.trans hF1;refine hK1 _ _ e1 ?_;clear hK1;refine Kh (i:=10) rfl (by kernel_rfl) (λK2 hK2 => ?_);go_simp;refine (hl.out _ (HL.out.ext (hX.trans e1))).mono ?_;rintro e w2 ⟨rfl,hF2⟩;have e2:=e1.trans hF2;refine hK2 _ _ e2 ?_;clear hK2;refine Ki (by kernel_rfl) ?_;replace HO:=hid (HO.out.ext e2);replace hX:=hX.trans e2;obtain ⟨q0,q1,f0,f1,r0,r1,hF⟩:=Qj hX hbs2 HO.out (I x) (I y);have Hres:=hid (show YJ w (.tuple #[.agg #[I x,I y],.int .i64 0]) (.returned (.tuple #[.agg #[I x,I y],.int .i64 0])) _ from ⟨rfl,hF.out⟩);go_wp2_with fail;refine bodyPost_ret (v := .tuple #[.agg #[I x,I y],.int .i64 0]) (by simp [results,Tryz.results89,go_sem,r0,r1]) rfl Hres.out
theorem Kea {b:Rat} (h:b≠0):b.num≠0:=λe=>h (Rat.num_eq_zero.1 e)
theorem Knj {a b:Rat} (hb:b≠0):qmk (a.num*(b.den:Int)) ((a.den:Int)*b.num)=qR (a/b):=by
 have hbn:=Kea hb;have hd:(a.den:Int)*b.num≠0:=Int.mul_ne_zero (by have:=a.den_pos;omega) hbn;rw [Kbt hd]
 congr 1
 have e1:=X7 a;have e2:=X7 b;have h1:=KbU a;have h2:=KbU b;have h3:((b.num:Int):Rat)≠0:=by exact_mod_cast hbn
 simp only [Rat.intCast_mul];generalize ((a.den:Int):Rat)=da at *;generalize ((b.den:Int):Rat)=db at *;generalize ((a.num:Int):Rat)=na at *;generalize ((b.num:Int):Rat)=nb at *
 grind
theorem Kd9 {a b:Rat} (ha:SmQ a) (hb:SmQ b) (h0:b≠0) {w:World} (hL:Laid w) :
  Calls Tryz.prog 89 #[RV a,RV b] w λe w'=>e = .returned (.tuple #[RV (a/b),.int .i64 0])/\Ext w w':=by
 have h:=Kmz ha.1 ha.2 hb.1 hb.2 (den_pos' a) (Kea h0) hL;obtain ⟨e1,e2⟩:=Kd7 (Knj (a:=a) h0);rw [e1,e2] at h;exact h
theorem NdQ.div {E F:Nat} {a b:Rat} (ha:NdQ E a) (hb:NdQ F b) (h0:b≠0):NdQ (E+F) (a/b):=by
 refine NdQ.mk (Knj (a:=a) h0) ?_ ?_
 ·have:=QY a.num (b.den:Int);have h1:=ha.1;have h2:=hb.2;omega
 ·have:=QY (a.den:Int) b.num;have h1:=ha.2;have h2:=hb.1;omega
theorem YF (a:Rat) (w:World):Calls Tryz.prog 86 #[RV a] w λe w'=>e = .returned (.int .i64 a.num.sign)/\Ext w w':=Kff a.num a.den w
section
variable {B:Nat} {w:World} {g cap n i j:Nat} {F:Mq} {ad:List (Nat×Nat)}
theorem QgX.el (h:QgX B w (slv g F.length cap) F ad) (hR:QG n F) (hi:i<F.length) (hj:j<n) :
  ∃gx cx,ad[i]? = some (gx,cx)/\w.cell? ⟨g,i,none⟩=some (slv gx n cx)/\w.cell? ⟨gx,j*2,none⟩=some (I (qa F i j).num)/\w.cell? ⟨gx,j*2+1,none⟩=some (I (qa F i j).den)/\gx≠g:=by
 obtain ⟨gx,cx,h1,h2,hO,hne,hl⟩:=h.at hR (by omega) hi;obtain ⟨k1,k2⟩:=hO.cells (i:=j) (by omega)
 have hq:qa F i j=(F.getD i [])[j]'(by omega):=by
  unfold qa;rw [List.getD_eq_getElem?_getD (l:=F.getD i []),List.getElem?_eq_getElem (by omega)];rfl
 rw [hq];exact ⟨gx,cx,h1,h2,k1,k2,hne⟩
theorem QgX.put (h:QgX B w (slv g F.length cap) F ad) (hR:QG n F) (hi:i<F.length) (hj:j<n) {gx cx:Nat} (ha:ad[i]? = some (gx,cx)) (r:Rat) :
  w.frozen? ⟨gx,j*2,none⟩=false/\w.frozen? ⟨gx,j*2+1,none⟩=false /\
   Hid (QgX B ((w.setCell ⟨gx,j*2,none⟩ (I r.num)).setCell ⟨gx,j*2+1,none⟩ (I r.den)) (slv g F.length cap) (F.set i ((F.getD i []).set j r)) ad) /\
   Hid (w.grownBy ((w.setCell ⟨gx,j*2,none⟩ (I r.num)).setCell ⟨gx,j*2+1,none⟩ (I r.den)) (some gx))/\B<=gx:=by
 obtain ⟨gx',cx',h1,h2,hO,hne,hl⟩:=h.at hR (by omega) hi;rw [h1] at ha;injection ha with ha
 injection ha with ha1 ha2
 subst ha1 ha2;obtain ⟨o2,hg⟩:=hO.set2 j r;exact ⟨hO.frozen _,hO.frozen _,hid (h.wrote hi h1 (by rw [List.length_set]) (by rw [List.length_set,hl];omega) o2 (Chg.of_grown hg rfl)),hid hg,hO.lt.1⟩
end
def BdQ (E:Nat) (F:Mq):Prop := ∀r∈F,∀x∈r,NdQ E x
def bnd (E:Nat):Nat->Nat
 | 0=>E
 | k+1=>6*bnd E k+1
theorem ZM (E:Nat) : ∀{a b:Nat},a<=b->bnd E a<=bnd E b
  | a, 0, h => by obtain rfl : a = 0 := by omega
                  exact Nat.le_refl _
  | a,b+1,h=>by
    rcases Nat.eq_or_lt_of_le h with rfl | h1
    · exact Nat.le_refl _
    · have:=ZM E (show a<=b by omega)
      show _<=6*bnd E b+1;omega
theorem Xw {E:Nat} (h:1<=E) (k:Nat):1<=bnd E k:=Nat.le_trans h (ZM E (Nat.zero_le k))
theorem NdQ.getD {E:Nat} {r:List Rat} (h : ∀x∈r,NdQ E x) (h1:1<=E) (j:Nat):NdQ E (r.getD j 0):=by
 rw [List.getD_eq_getElem?_getD]
 by_cases hj:j<r.length
 ·rw [List.getElem?_eq_getElem hj];exact h _ (List.getElem_mem hj)
 ·rw [List.getElem?_eq_none (by omega)];exact NdQ.zero h1
theorem BdQ.row {E:Nat} {F:Mq} (h:BdQ E F) (i:Nat) : ∀x∈F.getD i [],NdQ E x:=λx hx=>by
 rw [List.getD_eq_getElem?_getD] at hx
 by_cases hj:i<F.length
 ·rw [List.getElem?_eq_getElem hj] at hx;exact h _ (List.getElem_mem hj) x hx
 ·rw [List.getElem?_eq_none (by omega)] at hx;exact absurd hx (by simp)
theorem BdQ.qa {E:Nat} {F:Mq} (h:BdQ E F) (h1:1<=E) (i j:Nat):NdQ E (qa F i j):=NdQ.getD (h.row i) h1 j
theorem BdQ.mono {E D:Nat} {F:Mq} (h:BdQ E F) (hD:E<=D):BdQ D F:=λr hr x hx=>(h r hr x hx).mono hD
theorem BdQ.swap {E i j:Nat} {F:Mq} (h:BdQ E F) (hi:i<F.length) (hj:j<F.length):BdQ E (sw2 F [] i j):=λr hr=>by
 obtain ⟨t,ht,rfl⟩:=List.getElem_of_mem hr;rw [KS F [] hi hj ht];exact h _ (List.getElem_mem _)
theorem BdQ.div {E n k c:Nat} {F:Mq} (h:BdQ E F) (h1:1<=E) (hp:Go.Proofs.YtdmaofimeknkbaaGreatDoor.qa F k c≠0):BdQ (2*E) (F.set k (ZI (F.getD k []) (Go.Proofs.YtdmaofimeknkbaaGreatDoor.qa F k c) n)):=λr hr x hx=>by
 rcases List.mem_or_eq_of_mem_set hr with h2 | rfl
 ·exact (h r h2 x hx).mono (by omega)
 ·unfold ZI at hx;obtain ⟨t,_,rfl⟩:=List.mem_map.1 hx;split
  ·exact ((NdQ.getD (h.row k) h1 t).div (h.qa h1 k c) hp).mono (by omega)
  ·exact (NdQ.getD (h.row k) h1 t).mono (by omega)
theorem BdQ.elim {E n k c i:Nat} {F:Mq} (h:BdQ E F) (h1:1<=E):BdQ (3*E+1) (Kr F n k c i):=λr hr x hx=>by
 unfold Kr at hr;obtain ⟨t,_,rfl⟩:=List.mem_map.1 hr;split at hx
 ·unfold Xj at hx;obtain ⟨u,_,rfl⟩:=List.mem_map.1 hx;split
  ·exact ((NdQ.getD (h.row t) h1 u).sub ((h.qa h1 t c).mul (NdQ.getD (h.row k) h1 u))).mono (by omega)
  ·exact (NdQ.getD (h.row t) h1 u).mono (by omega)
 ·exact (h.row t x hx).mono (by omega)
theorem BdQ.pivot {E n k c:Nat} {F:Mq} (h:BdQ E F) (h1:1<=E) (hp:Go.Proofs.YtdmaofimeknkbaaGreatDoor.qa F k c≠0):BdQ (6*E+1) (JF F n k c):=by
 have:=(h.div (n:=n) (k:=k) (c:=c) h1 hp).elim (n:=n) (k:=k) (c:=c) (i:=F.length) (by omega);exact this.mono (by omega)
theorem Kpl {F:Mq} {k j:Nat} (p:Rat) (hk:k<F.length):qa (F.set k (ZI (F.getD k []) p j)) k j=qa F k j:=by
 unfold qa;rw [Zm F hk,if_pos rfl,Kao,if_neg (by omega)]
theorem KjL {F:Mq} {n k j:Nat} (p:Rat) (hR:QG n F) (hk:k<F.length) (hj:j<n):(F.set k (ZI (F.getD k []) p j)).set k (((F.set k (ZI (F.getD k []) p j)).getD k []).set j (qa F k j/p))=F.set k (ZI (F.getD k []) p (j+1)):=by
 rw [Zm F hk,if_pos rfl,List.set_set]
 congr 1
 exact KkI (by rw [Qh hR hk];exact hj)
theorem KjK {F:Mq} {n k:Nat} (p:Rat) (j:Nat) (hR:QG n F) (hk:k<F.length):QG n (F.set k (ZI (F.getD k []) p j)):=Y0 hR (by rw [Yu,Qh hR hk])
theorem Krc {F:Mq} {n i k j:Nat} (f:Rat) (hR:QG n F) (hi:i<F.length) (hk:k<F.length):qa (F.set i (Xj (F.getD i []) f (F.getD k []) j)) i j=qa F i j:=by
 unfold qa;rw [Zm F hi,if_pos rfl,Kck (by rw [Qh hR hi,Qh hR hk]),if_neg (by omega)]
theorem Krd {F:Mq} {i k j:Nat} (f:Rat) (hi:i<F.length) (hik:i≠k):qa (F.set i (Xj (F.getD i []) f (F.getD k []) j)) k j=qa F k j:=by
 unfold qa;rw [Zm F hi,if_neg (λe=>hik e.symm)]
theorem Kkb {F:Mq} {n i k j:Nat} (f:Rat) (hR:QG n F) (hi:i<F.length) (hj:j<n):(F.set i (Xj (F.getD i []) f (F.getD k []) j)).set i (((F.set i (Xj (F.getD i []) f (F.getD k []) j)).getD i []).set j (qa F i j-f*qa F k j))=F.set i (Xj (F.getD i []) f (F.getD k []) (j+1)):=by
 rw [Zm F hi,if_pos rfl,List.set_set]
 congr 1
 exact Klw (by rw [Qh hR hi];exact hj)
theorem Kmr {F:Mq} {n k c i:Nat} (hi:i<F.length) (hk:k<F.length):(Kr F n k c i).getD i []=F.getD i []/\(Kr F n k c i).getD k []=F.getD k []:=by
 refine ⟨?_,?_⟩
 ·rw [XB hi,if_neg (by omega)]
 ·rw [XB hk,if_neg (λh=>h.2 rfl)]
theorem Zg (w:World) (a b:Value):Kd 47 w.heap.size (w.alloc (.cells #[a,b] 47)) w.heap.size 2 [a,b] :=
 Kd.of (Nat.le_refl _) Array.getElem?_push_size (by simp) (by unfold maxLen;omega) rfl rfl
theorem ZW {w0 W:World} {g B:Nat} {a b:Value} (h:Kd 47 B W g 2 [a,b]) (hE:Ext w0 W) (hg:w0.heap.size<=g) (x y:Value) :
  Kd 47 B ((W.setCell ⟨g,0,none⟩ x).setCell ⟨g,1,none⟩ y) g 2 [x,y]/\Ext w0 ((W.setCell ⟨g,0,none⟩ x).setCell ⟨g,1,none⟩ y)/\W.grownBy ((W.setCell ⟨g,0,none⟩ x).setCell ⟨g,1,none⟩ y) (some g):=by
 obtain ⟨h1,g1⟩:=h.set 0 x;obtain ⟨h2,g2⟩:=h1.set 1 y;have hG:=Kg g1 g2;exact ⟨h2,Kb hE hG hg,hG⟩
theorem Ky {W:World} {g B:Nat} {a b:Value} (h:Kd 47 B W g 2 [a,b]):W.cell? ⟨g,0,none⟩=some a/\W.cell? ⟨g,1,none⟩=some b/\W.frozen? ⟨g,0,none⟩=false/\W.frozen? ⟨g,1,none⟩=false :=
 ⟨h.cell (j:=0) (by simp),h.cell (j:=1) (by simp),h.frozen 0,h.frozen 1⟩
theorem KnO (w:World):Calls Tryz.prog 85 #[] w λe w'=>e = .returned (RV 1)/\Ext w w':=by
 go_enter Tryz.func85,Tryz.ntmps85
 go_wp2_with fail;have e2:Lib.itoa 1=[49]:=by decide +kernel
 exact bodyPost_ret (v:=RV 1) (by simp [results,Tryz.results85,go_sem,e2]) rfl ⟨rfl,(Ext.refl w).alloc _⟩
theorem KlD (w:World):Calls Tryz.prog 87 #[] w λe w'=>e = .returned (RV 0)/\Ext w w':=by
 go_enter Tryz.func87,Tryz.ntmps87
 go_wp2_with fail;have e1:Lib.itoa 0=[48]:=by decide +kernel
 have e2:Lib.itoa 1=[49]:=by decide +kernel
 exact bodyPost_ret (v:=RV 0) (by simp [results,Tryz.results87,go_sem,e1,e2]) rfl ⟨rfl,(Ext.refl w).alloc _⟩
theorem Kft {B B':Nat} {w:World} {g cap gx cx:Nat} {xs ys:List Value} (h:Kd 32 B w g cap xs) (h':Kd 47 B' w gx cx ys):gx≠g:=by
 intro e;exact Kd2 (u:=slv gx ys.length cx) (v:=slv g xs.length cap) h' h (by decide) (g:=gx) rfl (by rw [e];rfl)
structure RqM (B g cap n b5:Nat) (F:Mq) (ad:List (Nat×Nat)) (lv:Value) (ld:List Int) (det:Rat) (w:World):Prop where
 rect:QG n F
 grid:QgX B w (slv g F.length cap) F ad
 lead:KH B w lv ld
 det:Kd 47 B w b5 2 [I det.num,I det.den]
 low : ∀p∈ad,p.1<b5
section
variable {B g cap n b5:Nat} {F:Mq} {ad:List (Nat×Nat)} {lv:Value} {ld:List Int} {det:Rat} {w w' w0:World}
theorem RqM.ext (h:RqM B g cap n b5 F ad lv ld det w) (he:Ext w w'):RqM B g cap n b5 F ad lv ld det w':=⟨h.rect,h.grid.ext he,h.lead.ext he,h.det.ext he,h.low⟩
theorem YB {i:Nat} {p:Nat×Nat} (h:ad[i]? = some p):p∈ad:=by
 obtain ⟨h1,rfl⟩:=List.getElem?_eq_some_iff.1 h;exact List.getElem_mem h1
theorem RqM.box (h:RqM B g cap n b5 F ad lv ld det w) (hE:Ext w0 w) (hb:w0.heap.size<=b5) (r:Rat) :
  Hid (RqM B g cap n b5 F ad lv ld r ((w.setCell ⟨b5,0,none⟩ (I r.num)).setCell ⟨b5,1,none⟩ (I r.den)))/\Ext w0 ((w.setCell ⟨b5,0,none⟩ (I r.num)).setCell ⟨b5,1,none⟩ (I r.den)):=by
 obtain ⟨h1,h2,h3⟩:=ZW h.det hE hb (I r.num) (I r.den);refine ⟨hid ⟨h.rect,h.grid.keep (R:=(· = b5)) (Chg.of_grown h3 rfl) (λe=>Kft h.grid.outer h.det e.symm) (λi a _ _ e => ?_),Ks h.lead h.det (by decide) h3,h1,h.low⟩,h2⟩;have:=h.low _ (List.getElem_mem a);omega
theorem RqM.el (h:RqM B g cap n b5 F ad lv ld det w) {i j:Nat} (hi:i<F.length) (hj:j<n) :
  ∃gx cx,ad[i]? = some (gx,cx)/\w.cell? ⟨g,i,none⟩=some (slv gx n cx)/\w.cell? ⟨gx,j*2,none⟩=some (I (qa F i j).num)/\w.cell? ⟨gx,j*2+1,none⟩=some (I (qa F i j).den)/\gx≠g/\gx<b5:=by
 obtain ⟨gx,cx,h1,h2,h3,h4,h5⟩:=h.grid.el h.rect hi hj;exact ⟨gx,cx,h1,h2,h3,h4,h5,h.low _ (YB h1)⟩
theorem RqM.room (h:RqM B g cap n b5 F ad lv ld det w) (hn:0<n) {i gx cx:Nat} (hi:i<F.length) (ha:ad[i]? = some (gx,cx)):n<=cx:=by
 obtain ⟨_,_,k1,_,hO,_,hl⟩:=h.grid.at h.rect hn hi;rw [ha] at k1;injection k1 with k1
 injection k1 with q1 q2
 subst q1 q2;have:=hO.cap;omega
theorem RqM.put (h:RqM B g cap n b5 F ad lv ld det w) {i j:Nat} (hi:i<F.length) (hj:j<n) {gx cx:Nat} (ha:ad[i]? = some (gx,cx)) (r:Rat) :
  w.frozen? ⟨gx,j*2,none⟩=false/\w.frozen? ⟨gx,j*2+1,none⟩=false /\
   Hid (RqM B g cap n b5 (F.set i ((F.getD i []).set j r)) ad lv ld det ((w.setCell ⟨gx,j*2,none⟩ (I r.num)).setCell ⟨gx,j*2+1,none⟩ (I r.den))) /\
   Hid (w.grownBy ((w.setCell ⟨gx,j*2,none⟩ (I r.num)).setCell ⟨gx,j*2+1,none⟩ (I r.den)) (some gx))/\B<=gx/\gx<b5:=by
 obtain ⟨f0,f1,h1,h2,h3⟩:=h.grid.put h.rect hi hj ha r;have hlt:=h.low _ (YB ha);obtain ⟨gx',cx',k1,_,hO,_,_⟩:=h.grid.at h.rect (by omega) hi;rw [ha] at k1;injection k1 with k1
 injection k1 with q1 q2
 subst q1 q2;refine ⟨f0,f1,hid ⟨Y0 h.rect (by rw [List.length_set,Qh h.rect hi]),?_,Ks h.lead hO (by decide) h2.out,h.det.other h2.out (λe=>by simp at hlt;omega),h.low⟩,h2,h3,hlt⟩;rw [List.length_set];exact h1.out
theorem RqM.app {lv':Value} {ld':List Int} (h:RqM B g cap n b5 F ad lv ld det w) (hG:w.grownBy w' lv.ownBlock) (hl:KH B w' lv' ld'):RqM B g cap n b5 F ad lv' ld' det w':=by
 refine ⟨h.rect,⟨h.grid.len,Ks h.grid.own h.lead (by decide) hG,λi a b c => ?_,h.grid.dis⟩,hl,Ks h.det h.lead (by decide) hG,h.low⟩;exact Ks (h.grid.row i a b c) h.lead (by decide) hG
theorem Kh2 {α:Type} {l:List α} {d:α} {i j:Nat} (hi:i<l.length) (hj:j<l.length) {y:α} (h:y∈sw2 l d i j):y∈l:=by
 obtain ⟨t,ht,rfl⟩:=List.getElem_of_mem h;rw [KS l d hi hj ht];exact List.getElem_mem _
theorem RqM.swap (h:RqM B g cap n b5 F ad lv ld det w) (hn:0<n) {i j gi ci gj cj:Nat} (hi:i<F.length) (hj:j<F.length) (hai:ad[i]? = some (gi,ci)) (haj:ad[j]? = some (gj,cj)) :
  Hid (RqM B g cap n b5 (sw2 F [] i j) (sw2 ad (0,0) i j) lv ld det ((w.setCell ⟨g,i,none⟩ (slv gj n cj)).setCell ⟨g,j,none⟩ (slv gi n ci))) /\
   w.grownBy ((w.setCell ⟨g,i,none⟩ (slv gj n cj)).setCell ⟨g,j,none⟩ (slv gi n ci)) (some g)/\w.frozen? ⟨g,i,none⟩=false/\w.frozen? ⟨g,j,none⟩=false/\B<=g:=by
 obtain ⟨h1,h2,h3⟩:=h.grid.swapped h.rect hn hi hj hai haj;have hO:=h.grid.outer;refine ⟨hid ⟨h3,by rw [Qi];exact h1,Ks h.lead hO (by decide) h2,h.det.other h2 (λe=>Kft hO h.det e),λp hp=>h.low p (Kh2 (by rw [h.grid.len];exact hi) (by rw [h.grid.len];exact hj) hp)⟩,h2,hO.frozen _,hO.frozen _,hO.lt.1⟩
end
theorem KiZ {a:Rat} (ha:SmQ a) (w:World):Calls Tryz.prog 81 #[RV a] w λe w'=>e = .returned (RV (-a))/\Ext w w':=by
 have h:=Kg7 (a:=a.num) (b:=a.den) (by have:=ha.1;unfold LIM;omega) w;rw [<-Rat.neg_num] at h;have e:(-a).den=a.den:=Rat.neg_den a;rw [<-e] at h;exact h
theorem KbA (F:Mq) (k:Nat):F.set k (F.getD k [])=F:=by
 refine List.ext_getElem (by simp) λt h1 h2 => ?_
 rw [List.getElem_set];split
 ·rename_i e;subst e;rw [List.getD_eq_getElem?_getD,List.getElem?_eq_getElem h2];rfl
 ·rfl
theorem Kj4 {F:Mq} {i j c:Nat} (hi:i<F.length) (hj:j<F.length):qa (sw2 F [] i j) i c=qa F j c:=by
 unfold qa;rw [Xe F [] hi hj];split
 ·rename_i e;subst e;rfl
 ·rw [if_pos rfl]
end
end Go.Proofs.YtdmaofimeknkbaaGreatDoor
