/- Part 34 of the proof of the claim: contracts of the functions that it reaches, and plain laws; no condition. -/
import Derived.Test.YtmhfccigejcphaaGreatDoorQ33
import Derived.Test.YtmhfccigejcphaaGreatDoorQ10
import Derived.Test.YtmhfccigejcphaaGreatDoorQ12
import Derived.BigQuiet
import Derived.Test.YtmhfccigejcphaaGreatDoorQ11
import Derived.Test.YtmhfccigejcphaaGreatDoorQ25
import Derived.Test.YtmhfccigejcphaaGreatDoorQ15
import Derived.Test.YtmhfccigejcphaaGreatDoorQ13
import Derived.Test.YtmhfccigejcphaaGreatDoorQ17
set_option maxRecDepth 100000
set_option maxHeartbeats 20000000
namespace Go.Proofs.YtmhfccigejcphaaGreatDoor
section
open Go.RowKit Go.Sort
open Lib (hid)
theorem Qb.elZ {w:World} {sa:Option Addr} {n cap c:Nat} {F:Mx} (h:Qb w (.slice sa n cap) F) (hn:n=F.length) (hR:Ks c F) (hc:0<c) : ∃gb go,(0<n->sa=some ⟨gb,go,none⟩) /\ ∀i,i<n -> ∃gr or cr,w.cell? ⟨gb,go+i,none⟩=some (.slice (some ⟨gr,or,none⟩) c cr) /\ ∀k,k<c->w.cell? ⟨gr,or+k,none⟩=some (.int .i64 (eM F i k)):=by
 obtain ⟨sa',gb,go,cap',vs,e,hcap,hvl,hS,hr⟩:=h;injection e with e1 e2 e3
 subst e1;refine ⟨gb,go,λh0=>hS.addr (by omega),λi hi => ?_⟩;obtain ⟨sr,br,or,cr,hrow,hrc,hSr⟩:=Qb.row hS hvl hr (show i<F.length by omega);have hl:F[i].length=c:=hR _ (List.getElem_mem _);rw [hl] at hrow;obtain rfl:=hSr.addr (by rw [Kv];omega);refine ⟨br,or,cr,hrow,λk hk => ?_⟩;have:=hSr.cell k _ (Qh (p:=F[i]) (by omega));rw [this];unfold eM;rw [Ka (show i<F.length by omega),Ka (by omega)]
def Jw (M:Mx):Int:=eM M 0 0*eM M 1 1-eM M 0 1*eM M 1 0
theorem YO {M:Mx} {B:Nat} (h : ∀r∈M,∀z∈r,z.natAbs<=B) (i j:Nat):(eM M i j).natAbs<=B:=by
 unfold eM;rw [List.getD_eq_getElem?_getD,List.getD_eq_getElem?_getD]
 by_cases hi:i<M.length
 ·rw [List.getElem?_eq_getElem hi];show ((M[i])[j]?.getD 0).natAbs<=B
  by_cases hj:j<M[i].length
  ·rw [List.getElem?_eq_getElem hj];exact h _ (List.getElem_mem hi) _ (List.getElem_mem hj)
  ·rw [List.getElem?_eq_none (by omega)];simp
 ·rw [List.getElem?_eq_none (l:=M) (i:=i) (by omega)];simp
theorem Kcs {a b:Int} (ha:a.natAbs<=1000000) (hb:b.natAbs<=1000000):(a*b).natAbs<=1000000000000:=by
 rw [Int.natAbs_mul];exact Nat.mul_le_mul ha hb
theorem Kkm {w:World} {v:Value} {M:Mx} (hM:Qb w v M) (hl:M.length=2) (hR:Ks 2 M) (hB : ∀r∈M,∀z∈r,z.natAbs<=1000000) :
  Calls Tryz.prog 79 #[v] w λe w'=>e = .returned (.int .i64 (Jw M))/\Ext w w':=by
 obtain ⟨sa,ln,cap,rfl⟩ : ∃sa ln cap,v = .slice sa ln cap:=by
  obtain ⟨sa,_,_,cap,_,e,_⟩:=hM;exact ⟨sa,_,cap,e⟩
 have hln:ln=M.length:=by
  obtain ⟨_,_,_,_,_,e,_⟩:=hM;injection e
 rw [hl] at hln;subst hln;obtain ⟨gb,go,hsa,hrow⟩:=hM.elZ hl.symm hR (by omega);obtain rfl:=hsa (by omega);obtain ⟨g0,o0,c0,r0,k0⟩:=hrow 0 (by omega);obtain ⟨g1,o1,c1,r1,k1⟩:=hrow 1 (by omega);rw [Nat.add_zero] at r0;have k00:=k0 0 (by omega);have k01:=k0 1 (by omega);have k10:=k1 0 (by omega);have k11:=k1 1 (by omega);rw [Nat.add_zero] at k00 k10;have b00:=YO hB 0 0;have b01:=YO hB 0 1;have b10:=YO hB 1 0;have b11:=YO hB 1 1;have m1:=Kcs b00 b11;have m2:=Kcs b01 b10;have HD:=hid (show Jw M=eM M 0 0*eM M 1 1-eM M 0 1*eM M 1 0 from rfl);obtain ⟨D,hD⟩ : ∃D,D=Jw M:=⟨_,rfl⟩
 rw [<-hD] at HD ⊢;clear hD k0 k1 hrow hB hR hl b00 b01 b10 b11 hM hsa;generalize eM M 0 0=a at *;generalize eM M 0 1=b at *;generalize eM M 1 0=c at *;generalize eM M 1 1=d at *;have q0:=cell_regrown r0;have q1:=cell_regrown r1;have j0:=cell_regrown k00;have j1:=cell_regrown k01;have j2:=cell_regrown k10;have j3:=cell_regrown k11
 go_enter Tryz.func79,Tryz.ntmps79
 go_wp2_with fail
 go_quiet (fail)
 go_wp2_with fail;go_ret;exact ⟨by rw [HD.out];rfl,(Ext.refl w).drewN _⟩
def dt3 (M:Mx) (i j k:Nat):Int:=eM M 0 i*(eM M 1 j*eM M 2 k-eM M 1 k*eM M 2 j)
def Zt (M:Mx):Nat->Int
 | 0=>0
 | 1=>0+dt3 M 0 1 2
 | 2=>0+dt3 M 0 1 2+dt3 M 1 2 0
 | _=>0+dt3 M 0 1 2+dt3 M 1 2 0+dt3 M 2 0 1
theorem Kdq {M:Mx} (hB : ∀r∈M,∀z∈r,z.natAbs<=1000000) (i j k:Nat):(dt3 M i j k).natAbs<=2000000000000000000:=by
 have m1:=Kcs (YO hB 1 j) (YO hB 2 k);have m2:=Kcs (YO hB 1 k) (YO hB 2 j);unfold dt3;rw [Int.natAbs_mul];exact Nat.le_trans (Nat.mul_le_mul (YO hB 0 i) (show _<=2000000000000 by omega)) (by omega)
theorem KgJ {w:World} {v:Value} {M:Mx} (hM:Qb w v M) (hl:M.length=3) (hR:Ks 3 M) (hB : ∀r∈M,∀z∈r,z.natAbs<=1000000) :
  Calls Tryz.prog 79 #[v] w λe w'=>e = .returned (.int .i64 (Zt M 3))/\Ext w w':=by
 obtain ⟨sa,ln,cap,rfl⟩ : ∃sa ln cap,v = .slice sa ln cap:=by
  obtain ⟨sa,_,_,cap,_,e,_⟩:=hM;exact ⟨sa,_,cap,e⟩
 have hln:ln=M.length:=by
  obtain ⟨_,_,_,_,_,e,_⟩:=hM;injection e
 rw [hl] at hln;subst hln;obtain ⟨gb,go,hsa,hrow⟩:=hM.elZ hl.symm hR (by omega);obtain rfl:=hsa (by omega);obtain ⟨g0,o0,c0,r0,k0⟩:=hrow 0 (by omega);obtain ⟨g1,o1,c1,r1,k1⟩:=hrow 1 (by omega);obtain ⟨g2,o2,c2,r2,k2⟩:=hrow 2 (by omega);rw [Nat.add_zero] at r0;have HB:=hid hB
 have HS:=hid (show ∀i,(Zt M i).natAbs<=6000000000000000000 from λi=>by
  have b1:=Kdq hB 0 1 2;have b2:=Kdq hB 1 2 0;have b3:=Kdq hB 2 0 1
  match i with
  | 0=>simp [Zt]
  | 1=>show (0+dt3 M 0 1 2).natAbs<=_;omega
  | 2=>show (0+dt3 M 0 1 2+dt3 M 1 2 0).natAbs<=_;omega
  | i+3=>show (0+dt3 M 0 1 2+dt3 M 1 2 0+dt3 M 2 0 1).natAbs<=_;omega)
 have HK0:=hid k0;have HK1:=hid k1;have HK2:=hid k2;clear hrow hB hR hl hM hsa k0 k1 k2
 have step : ∀(i j k:Nat),i<3->j<3->k<3 -> ∃a b c d e:Int,(w.cell? ⟨g0,o0+i,none⟩=some (.int .i64 a)/\w.cell? ⟨g1,o1+j,none⟩=some (.int .i64 b)/\w.cell? ⟨g2,o2+k,none⟩=some (.int .i64 c)/\w.cell? ⟨g1,o1+k,none⟩=some (.int .i64 d)/\w.cell? ⟨g2,o2+j,none⟩=some (.int .i64 e)) /\
   a*(b*c-d*e)=dt3 M i j k/\(b*c).natAbs<=1000000000000/\(d*e).natAbs<=1000000000000/\(a*(b*c-d*e)).natAbs<=2000000000000000000:=λi j k hi hj hk =>
  ⟨eM M 0 i,eM M 1 j,eM M 2 k,eM M 1 k,eM M 2 j,⟨HK0.out i hi,HK1.out j hj,HK2.out k hk,HK1.out k hk,HK2.out j hj⟩,rfl,Kcs (YO HB.out 1 j) (YO HB.out 2 k),Kcs (YO HB.out 1 k) (YO HB.out 2 j),Kdq HB.out i j k⟩
 have Xa:=hid step;clear step
 go_enter Tryz.func79,Tryz.ntmps79
 go_wp2_with fail
 go_loopw [3,4] (λsv iv wr => ∃i:Nat,i<=3/\iv = .int .i64 i/\sv = .int .i64 (Zt M i)/\Ext w wr) (λ_ iv _=>3-(intOf iv).toNat)
 case atStart=>exact ⟨0,by omega,by go_num,rfl,Ext.refl _⟩
 case round =>
  obtain ⟨i,hi,rfl,rfl,hE⟩:=hrel;generalize wr=X at *;have m0:=HS.out i;have r0:=hE.cell r0;have r1:=hE.cell r1;have r2:=hE.cell r2;have hi4:i=0\/i=1\/i=2\/i=3:=by omega
  rcases hi4 with rfl | rfl | rfl | rfl
  ·obtain ⟨a,b,c,d,e,⟨x0,x1,x2,x3,x4⟩,ht,m1,m2,m3⟩:=Xa.out 0 1 2 (by omega) (by omega) (by omega);have Ht:=hid (show Zt M 1=Zt M 0+a*(b*c-d*e) by rw [ht];rfl);rw [Nat.add_zero] at x0;rw [show (((0:Nat)):Int)=0 from rfl];obtain ⟨s,hs⟩ : ∃s,s=Zt M 0:=⟨_,rfl⟩
   rw [<-hs] at m0 Ht ⊢;clear ht hs;have y0:=hE.cell x0;have j0:=cell_regrown y0;have y1:=hE.cell x1;have j1:=cell_regrown y1;have y2:=hE.cell x2;have j2:=cell_regrown y2;have y3:=hE.cell x3;have j3:=cell_regrown y3;have y4:=hE.cell x4;have j4:=cell_regrown y4;have q0:=cell_regrown r0;have q1:=cell_regrown r1;have q2:=cell_regrown r2;go_wp2_with fail
   go_quiet (fail)
   go_wp2_with fail;go_roundw
   case rel=>exact ⟨1,by omega,by go_num,by rw [Ht.out],hE.drewN _⟩
   case measure=>simp [intOf]<;>omega
  ·obtain ⟨a,b,c,d,e,⟨x0,x1,x2,x3,x4⟩,ht,m1,m2,m3⟩:=Xa.out 1 2 0 (by omega) (by omega) (by omega);have Ht:=hid (show Zt M 2=Zt M 1+a*(b*c-d*e) by rw [ht];rfl);rw [Nat.add_zero] at x2 x3;rw [show (((1:Nat)):Int)=1 from rfl];obtain ⟨s,hs⟩ : ∃s,s=Zt M 1:=⟨_,rfl⟩
   rw [<-hs] at m0 Ht ⊢;clear ht hs;have y0:=hE.cell x0;have j0:=cell_regrown y0;have y1:=hE.cell x1;have j1:=cell_regrown y1;have y2:=hE.cell x2;have j2:=cell_regrown y2;have y3:=hE.cell x3;have j3:=cell_regrown y3;have y4:=hE.cell x4;have j4:=cell_regrown y4;have q0:=cell_regrown r0;have q1:=cell_regrown r1;have q2:=cell_regrown r2;go_wp2_with fail
   go_quiet (fail)
   go_wp2_with fail;go_roundw
   case rel=>exact ⟨2,by omega,by go_num,by rw [Ht.out],hE.drewN _⟩
   case measure=>simp [intOf]<;>omega
  ·obtain ⟨a,b,c,d,e,⟨x0,x1,x2,x3,x4⟩,ht,m1,m2,m3⟩:=Xa.out 2 0 1 (by omega) (by omega) (by omega);have Ht:=hid (show Zt M 3=Zt M 2+a*(b*c-d*e) by rw [ht];rfl);rw [Nat.add_zero] at x1 x4;rw [show (((2:Nat)):Int)=2 from rfl];obtain ⟨s,hs⟩ : ∃s,s=Zt M 2:=⟨_,rfl⟩
   rw [<-hs] at m0 Ht ⊢;clear ht hs;have y0:=hE.cell x0;have j0:=cell_regrown y0;have y1:=hE.cell x1;have j1:=cell_regrown y1;have y2:=hE.cell x2;have j2:=cell_regrown y2;have y3:=hE.cell x3;have j3:=cell_regrown y3;have y4:=hE.cell x4;have j4:=cell_regrown y4;have q0:=cell_regrown r0;have q1:=cell_regrown r1;have q2:=cell_regrown r2;go_wp2_with fail
   go_quiet (fail)
   go_wp2_with fail;go_roundw
   case rel=>exact ⟨3,by omega,by go_num,by rw [Ht.out],hE.drewN _⟩
   case measure=>simp [intOf]<;>omega
  ·go_wp2_with fail;go_ret;exact ⟨rfl,hE⟩
theorem KeE {w:World} {sa:Option Addr} {gb go cap:Nat} {vs:List Value} {p:Nat->Bool} {k:Int} (hS:Sl w sa gb go vs) (hl:vs.length<=1000000)
  (hF : ∀i (h:i<vs.length) W,Ext w W->Calls Tryz.prog 126 #[vs[i]] W λe w'=>e = .returned (.bool (p i))/\Ext W w') (hk:IxR p vs.length k) :
  Calls Tryz.prog 163 #[.slice sa vs.length cap,.func (.func 126) #[] #[]] w λe w'=>e = .returned (.int .i64 k)/\Ext w w':=by
 have HF:=hid hF;have HK:=hid hk;have HS:=hid hS;clear hF hk hS
 go_enter Tryz.func163,Tryz.ntmps163
 go_wp2_with fail
 go_loopw [8] (λidx wr => ∃i:Nat,i<=vs.length/\idx = .int .i64 i/\Hid (∀j,j<i->p j=false)/\Ext w wr) (λidx _=>vs.length-(intOf idx).toNat)
 case atStart=>exact ⟨0,by omega,by go_num,hid (λj h=>by omega),Ext.refl _⟩
 case round =>
  obtain ⟨i,hi,rfl,Hp,hE⟩:=hrel;generalize wr=X at *
  by_cases hlt:i<vs.length
  ·have hii:(i:Int)<(vs.length:Int):=by omega
   obtain ⟨u,hu⟩ : ∃u,u=vs[i]:=⟨_,rfl⟩
   have hc:=hE.cell (HS.out.cell i u (by rw [hu];exact List.getElem?_eq_getElem hlt));obtain rfl:=HS.out.addr (by omega);have hf:=HF.out i hlt X hE;rw [<-hu] at hf;have Hf:=hid hf;clear hf hu
   cases hpi:p i
   ·rw [hpi] at Hf;have Hpi:=hid hpi;clear hpi;go_wp2_with fail;refine Hf.out.mono ?_;rintro e W ⟨rfl,hE2⟩;go_wp2_with fail;go_roundw
    case rel=>exact ⟨i+1,by omega,by go_num,hid (λj hj=>by
     by_cases e:j=i
     ·subst e;exact Hpi.out
     ·exact Hp.out j (by omega)),hE.trans hE2⟩
    case measure=>simp [intOf]<;>omega
   ·rw [hpi] at Hf;have Hki:=hid (Kay HK.out hlt hpi Hp.out);clear hpi;go_wp2_with fail;refine Hf.out.mono ?_;rintro e W ⟨rfl,hE2⟩;go_wp2_with fail;go_ret;exact ⟨by rw [Hki.out];rfl,hE.trans hE2⟩
  ·have Hki:=hid (Kaz HK.out (λj hj=>Hp.out j (by omega)));go_wp2_with fail;go_ret;exact ⟨by rw [Hki.out];rfl,hE⟩
theorem KbF {w:World} {sa:Option Addr} {gb go cap:Nat} {vs:List Value} {p:Nat->Bool} (hS:Sl w sa gb go vs) (hl:vs.length<=1000000)
  (hF : ∀i (h:i<vs.length) W,Ext w W->Calls Tryz.prog 126 #[vs[i]] W λe w'=>e = .returned (.bool (p i))/\Ext W w') :
  Calls Tryz.prog 107 #[.slice sa vs.length cap,.func (.func 126) #[] #[]] w λe w'=>e = .returned (.bool (KaE p vs.length))/\Ext w w':=by
 obtain ⟨k,hk⟩:=Kc7 p vs.length;have Hge:=hid (KfF hk);have HI:=hid (KeE (cap:=cap) hS hl hF hk);clear hS hF hk
 go_enter Tryz.func107,Tryz.ntmps107
 go_wp2_with fail;refine HI.out.mono ?_;rintro e W ⟨rfl,hE⟩;go_wp2_with fail;go_ret;exact ⟨by rw [<-Hge.out];rfl,hE⟩
theorem KqS {R:Mx} (hm : ∀r∈R,∀z∈r,-9<=z/\z<=9):SmK R:=λr hr z hz=>by have:=hm r hr z hz;omega
theorem KqP {R:Mx} {n:Nat} (hR:Ks n R) (hn:n<=4) (hm : ∀r∈R,∀z∈r,-9<=z/\z<=9) : ∀r∈R,QP r=0/\r.length=n:=λr hr=>by
 have hg:r.any grt=false:=by
  cases h:r.any grt
  ·rfl
  ·obtain ⟨z,hz,hg⟩:=List.any_eq_true.1 h;have:=hm r hr z hz;unfold grt at hg;have:=of_decide_eq_true hg;omega
 have h2:=hR r hr;refine ⟨?_,h2⟩;unfold QP;rw [if_neg (by omega),hg];rfl
theorem KqI {T:TypeId} {g B:Nat} {W:World} {a b:Value} (h:Kd T B W g 2 [a,b]) (x y:Value) :
  Kd T B ((W.setCell ⟨g,0,none⟩ x).setCell ⟨g,1,none⟩ y) g 2 [x,y]/\W.grownBy ((W.setCell ⟨g,0,none⟩ x).setCell ⟨g,1,none⟩ y) (some g):=by
 obtain ⟨h1,g1⟩:=h.set 0 x;obtain ⟨h2,g2⟩:=h1.set 1 y;exact ⟨h2,Kh g1 g2⟩
theorem KH.slice {B:Nat} {w:World} {v:Value} {r:List Int} (h:KH B w v r) : ∃a l k,v = .slice a l k:=by
 rcases h.2 with ⟨rfl,_⟩ | ⟨g,cap,cur,rfl,_⟩
 ·exact ⟨_,_,_,rfl⟩
 ·exact ⟨_,_,_,rfl⟩
theorem Km2 {w w':World} {q g n c:Nat} {r:List Int} (h:KQ w (slv g n c) r) (hG:w.grownBy w' (some q)) (hne:g≠q):KQ w' (slv g n c) r:=by
 obtain ⟨sa,gb,go,cap,he,hc,hS⟩:=h;injection he with e1 e2 e3
 subst e2 e3;refine ⟨_,gb,go,c,rfl,hc,λh0=>(by rw [e1];exact hS.addr h0),λi x hx => ?_⟩;have h0:0<(is r).length:=by have:=(List.getElem?_eq_some_iff.1 hx).1;omega
 have h1:=hS.addr h0;rw [<-e1] at h1;injection h1 with h1
 injection h1 with h1 h2
 subst h1 h2;exact Kx hG hne (hS.cell i x hx)
def mzS (x:List Int):Bool:=x.all λz=>decide (-1000<=z)&&decide (z<=1000)
def mzE (n:Nat) (x:List Int):Int:=if x.length=n then (if mzS x=true then 0 else 4) else 5
theorem Kbd {n:Nat} {x:List Int} (h:mzE n x=0):x.length=n /\ ∀z∈x,-1000<=z/\z<=1000:=by
 unfold mzE at h;split at h
 ·rename_i h1
  split at h
  ·rename_i h2
   unfold mzS at h2;rw [List.all_eq_true] at h2;exact ⟨h1,λz hz=>by have:=h2 z hz;simpa using this⟩
  ·cases h
 ·cases h
theorem KdL {w:World} {vp:Value} {P:List Int} {b:Nat} {vx:Value} {x:List Int} (hP:KQ w vp P) (hp0:0<P.length) (hp4:P.length<=4) (hpr : ∀x∈P,SmP x) (hinc : ∀i (h:i+1<P.length),P[i]'(by omega)<P[i+1]) (hb:w.cell? ⟨b,0,none⟩=some vx) (hx:KQ w vx x) :
  Calls Tryz.prog 70 #[vp,.slice (some ⟨b,0,none⟩) 1 1] w λe w'=>e = .returned (.int .i64 (mzE P.length x))/\Ext w w':=by
 have hck:=hid (KbT hP hp0 (by omega) hpr hinc);obtain ⟨sx,gx,ox,cx,rfl,hxc,hSx⟩:=hx;obtain ⟨sp,gp,op,cp,rfl,hpc,hSp⟩:=hP;have HSx:=hid hSx;have hE:mzE P.length x=if x.length=P.length then (if mzS x=true then 0 else 4) else 5:=rfl
 have hS4:=λj (h:j<x.length) (hz : ¬(-1000<=x[j]/\x[j]<=1000))=>show mzS x=false by
  cases hq:mzS x with
  | false=>rfl
  | true =>
   unfold mzS at hq;rw [List.all_eq_true] at hq;have:=hq x[j] (List.getElem_mem h);exact absurd (by simpa using this) hz
 have hS0:=λ(h : ∀j (h:j<x.length),-1000<=x[j]/\x[j]<=1000)=>show mzS x=true by
  unfold mzS;rw [List.all_eq_true];intro z hz;obtain ⟨j,hj,rfl⟩:=List.getElem_of_mem hz;have:=h j hj;simp [this.1,this.2]
 obtain ⟨n,hn⟩ : ∃n,n=x.length:=⟨_,rfl⟩
 obtain ⟨q,hq⟩ : ∃q,q=mzE P.length x:=⟨_,rfl⟩
 rw [<-hq] at hE ⊢;rw [<-hn] at hb hE;clear hSx hSp hpr hinc hp0 hpc hq;generalize P.length=p at *;have Hn:=hid hn;have HE:=hid hE;have HS4:=hid hS4;have HS0:=hid hS0;clear hn hE hS4 hS0
 go_enter Tryz.func70,Tryz.ntmps70
 go_wp2_with fail;refine hck.out.mono ?_;rintro e X ⟨rfl,hE1⟩;have yb:=hE1.cell hb;clear hck hb
 by_cases hnp:n=p
 ·subst hnp;have HE:=hid (show q=if mzS x=true then 0 else 4 by rw [HE.out,if_pos rfl]);go_wp2_with fail
  go_loopw [4,17] (λrv idx wr => ∃i:Nat,i<=1/\idx = .int .i64 i/\rv = .int .i64 0/\Hid (0<i->q=0)/\Ext X wr) (λ_ idx _=>1-(intOf idx).toNat)
  case atStart=>exact ⟨0,by omega,by go_num,rfl,hid (λh=>by omega),Ext.refl _⟩
  case round =>
   obtain ⟨i,hi,rfl,rfl,H0,hE⟩:=hrel;generalize wr=Y at *;have yb1:=hE.cell yb
   rcases (show i=0\/i=1 by omega) with rfl | rfl
   ·go_wp2_with fail
    go_loopw [4,28] (λrv idx wr => ∃j:Nat,j<=n/\idx = .int .i64 j/\rv = .int .i64 0/\Hid (∀t (h:t<x.length),t<j -> -1000<=x[t]/\x[t]<=1000)/\Ext Y wr) (λ_ idx _=>n-(intOf idx).toNat)
    case atStart=>exact ⟨0,by omega,by go_num,rfl,hid (λt _ h=>by omega),Ext.refl _⟩
    case round =>
     obtain ⟨j,hj,rfl,rfl,HA,hE2⟩:=hrel;generalize wr=Z at *
     by_cases hjl:j<n
     ·have hji:(j:Int)<(n:Int):=by omega
      have hjx:j<x.length:=by rw [<-Hn.out];exact hjl
      have Hbad:=hid (λh=>show q=4 by rw [HE.out,HS4.out j hjx h];rfl)
      have Hok:=hid (λ(h : -1000<=x[j]/\x[j]<=1000) t (ht:t<x.length) (htj:t<j+1)=>show -1000<=x[t]/\x[t]<=1000 by
       by_cases e:t=j
       ·subst e;exact h
       ·exact HA.out t ht (by omega))
      obtain ⟨z,hz⟩ : ∃z,z=x[j]:=⟨_,rfl⟩
      have hcz:=((hE1.trans hE).trans hE2).cell (HSx.out.cell j (.int .i64 z) (by rw [hz];exact Qh hjx));obtain rfl:=HSx.out.addr (by simp;omega);rw [<-hz] at Hbad Hok;have eF:=(hE1.trans hE).trans hE2;clear hz HA
      by_cases hz1:(1000:Int)<z
      ·have H4:=hid (Hbad.out (by omega));clear Hbad Hok;go_wp2_with fail;go_ret;exact ⟨KF (congrArg (Value.int .i64) H4.out.symm),eF⟩
      ·by_cases hz2:z<(-1000:Int)
       ·have H4:=hid (Hbad.out (by omega));clear Hbad Hok;go_wp2_with fail;go_ret;exact ⟨KF (congrArg (Value.int .i64) H4.out.symm),eF⟩
       ·have HA:=hid (Hok.out (by omega));clear Hbad Hok;go_wp2_with fail;go_roundw
        case rel=>exact ⟨j+1,by omega,by go_num,rfl,HA,hE2⟩
        case measure=>simp [intOf]<;>omega
     ·obtain rfl:j=n:=by omega
      have H0:=hid (show q=0 by rw [HE.out,HS0.out (λt ht=>HA.out t ht (by rw [Hn.out];exact ht))];rfl);clear HA;go_wp2_with fail;go_roundw
      case rel=>exact ⟨1,by omega,by go_num,rfl,hid (λ_=>H0.out),hE.trans hE2⟩
      case measure=>simp [intOf]<;>omega
   ·have H0:=hid (H0.out (by omega));go_wp2_with fail;go_ret;exact ⟨KF (congrArg (Value.int .i64) H0.out.symm),hE1.trans hE⟩
 ·have HE:=hid (show q=5 by rw [HE.out,if_neg hnp]);have hn1 : ¬(n:Int)=(p:Int):=by omega
  have hn2:((n:Int)==(p:Int))=false:=beq_eq_false_iff_ne.2 hn1;have hn3:((n:Int) != (p:Int))=true:=by simp [bne,hn2]
  go_wp2_with fail
  go_loopw [4,17] (λrv idx wr=>idx = .int .i64 0/\rv = .int .i64 0/\X=wr) (λ_ _ _=>0)
  case atStart=>exact ⟨by go_num,rfl,rfl⟩
  case round =>
   obtain ⟨rfl,rfl,hwr⟩:=hrel;subst hwr;go_wp2_with fail;go_ret;exact ⟨KF (congrArg (Value.int .i64) HE.out.symm),hE1⟩
theorem Kio {w:World} {vp:Value} {P:List Int} {sx:Option Addr} {n cx:Nat} {x:List Int} (hP:KQ w vp P) (hp0:0<P.length) (hp4:P.length<=4) (hpr : ∀x∈P,SmP x) (hinc : ∀i (h:i+1<P.length),P[i]'(by omega)<P[i+1]) (hx:KQ w (.slice sx n cx) x) :
  Calls Tryz.prog 28 #[vp,.slice sx n cx] w λe w'=>e = .returned (.int .i64 (mzE P.length x))/\Ext w w':=by
 have hX:=(Ext.refl w).alloc (.cells #[.slice sx n cx] 30);have xb:(w.alloc (.cells #[.slice sx n cx] 30)).cell? ⟨w.heap.size,0,none⟩=some (.slice sx n cx):=by go_simp
 have hck:=hid (KdL (hP.ext hX) hp0 hp4 hpr hinc xb (hx.ext hX));obtain ⟨sp,gp,op,cp,rfl,hpc,hSp⟩:=hP;generalize mzE P.length x=q at *;clear hSp hx hpr hinc hpc
 go_enter Tryz.func28,Tryz.ntmps28
 go_wp2_with fail;refine hck.out.mono ?_;rintro e X ⟨rfl,hE1⟩;go_wp2_with fail;go_ret;exact ⟨rfl,hX.trans hE1⟩
def MzS (n:Nat) (x:List Int):Prop:=x.length=n /\ ∀z∈x,-1000<=z/\z<=1000
theorem Kf1 {w:World} {vp:Value} {P:List Int} {b m cc:Nat} {xs:List (List Int)} (hP:KQ w vp P) (hp0:0<P.length) (hp4:P.length<=4) (hpr : ∀x∈P,SmP x) (hinc : ∀i (h:i+1<P.length),P[i]'(by omega)<P[i+1]) (hm:xs.length=m) (hm4:m<=1000)
  (hb : ∀j (h:j<xs.length),∃v,w.cell? ⟨b,j,none⟩=some v/\KQ w v xs[j]) (hs : ∀x∈xs,MzS P.length x) :
  Calls Tryz.prog 70 #[vp,.slice (some ⟨b,0,none⟩) m cc] w λe w'=>e = .returned (.int .i64 0)/\Ext w w':=by
 have hck:=hid (KbT hP hp0 (by omega) hpr hinc);obtain ⟨sp,gp,op,cp,rfl,hpc,hSp⟩:=hP;obtain ⟨n,hn⟩ : ∃n,n=P.length:=⟨_,rfl⟩
 rw [<-hn] at hck hs ⊢;have Hb:=hid hb;have Hs:=hid hs;have Hm:=hid hm;have hn4:n<=4:=by omega
 clear hSp hs hb hn hpr hinc hp0 hp4 hpc hm
 go_enter Tryz.func70,Tryz.ntmps70
 go_wp2_with fail;refine hck.out.mono ?_;rintro e X ⟨rfl,hE1⟩;clear hck;go_wp2_with fail
 go_loopw [4,17] (λrv idx wr => ∃i:Nat,i<=m/\idx = .int .i64 i/\rv = .int .i64 0/\Ext X wr) (λ_ idx _=>m-(intOf idx).toNat)
 case atStart=>exact ⟨0,by omega,by go_num,rfl,Ext.refl _⟩
 case round =>
  obtain ⟨i,hi,rfl,rfl,hE⟩:=hrel;generalize wr=Y at *
  by_cases hlt:i<m
  ·have hii:(i:Int)<(m:Int):=by omega
   have hix:i<xs.length:=by rw [Hm.out];exact hlt
   obtain ⟨v,hv,hR⟩:=Hb.out i hix;obtain ⟨x,hx⟩ : ∃x,x=xs[i]:=⟨_,rfl⟩
   have hsx:=Hs.out x (by rw [hx];exact List.getElem_mem hix);rw [<-hx] at hR;obtain ⟨sx,gx,ox,cx,rfl,hxc,hSx⟩:=hR;have HSx:=hid hSx;have yb1:=hE.cell (hE1.cell hv);have Hl:=hid hsx.1;have Hz:=hid hsx.2;rw [hsx.1] at yb1;clear hSx hv hx hix hsx hxc hlt;go_wp2_with fail
   go_loopw [4,28] (λrv idx wr => ∃j:Nat,j<=n/\idx = .int .i64 j/\rv = .int .i64 0/\Ext Y wr) (λ_ idx _=>n-(intOf idx).toNat)
   case atStart=>exact ⟨0,by omega,by go_num,rfl,Ext.refl _⟩
   case round =>
    obtain ⟨j,hj,rfl,rfl,hE2⟩:=hrel;generalize wr=Z at *
    by_cases hjl:j<n
    ·have hji:(j:Int)<(n:Int):=by omega
     have hjx:j<x.length:=by rw [Hl.out];exact hjl
     obtain ⟨z,hz⟩ : ∃z,z=x[j]:=⟨_,rfl⟩
     have hcz:=((hE1.trans hE).trans hE2).cell (HSx.out.cell j (.int .i64 z) (by rw [hz];exact Qh hjx));obtain rfl:=HSx.out.addr (by simp;omega);have hzb:=Hz.out z (by rw [hz];exact List.getElem_mem hjx);have hz1 : ¬(1000:Int)<z:=by omega
     have hz2 : ¬z<(-1000:Int):=by omega
     clear hz hzb;go_wp2_with fail;go_roundw
     case rel=>exact ⟨j+1,by omega,by go_num,rfl,hE2⟩
     case measure=>simp [intOf]<;>omega
    ·obtain rfl:j=n:=by omega
     go_wp2_with fail;go_roundw
     case rel=>exact ⟨i+1,by omega,by go_num,rfl,hE.trans hE2⟩
     case measure=>simp [intOf]<;>omega
  ·obtain rfl:i=m:=by omega
   have hii : ¬(i:Int)<(i:Int):=by omega
   go_wp2_with fail;go_ret;exact ⟨rfl,hE1.trans hE⟩
theorem Ke0 (a b:Int) (w:World) :
  Calls Tryz.prog 119 #[.agg #[I a,I b]] w λe w'=>e = .returned (.int .i64 a.sign)/\Ext w w':=by
 have hs:=hid (ZI a);generalize a.sign=sg at *;have hX:Ext w (w.alloc (.cells #[I a,I b] 84)):=(Ext.refl w).alloc _;have HO:=Qq w 84 (I a) (I b);have c0:(w.alloc (.cells #[I a,I b] 84)).cell? ⟨w.heap.size,0,none⟩=some (I a):=HO.cell (j:=0) (by simp);clear HO
 go_enter Tryz.func119,Tryz.ntmps119
 go_wp2_with fail;refine (hs.out _).mono ?_;rintro e w1 ⟨rfl,hE1⟩;go_wp2_with fail;go_ret;exact ⟨rfl,hX.trans hE1⟩
theorem Kmb {a b c d:Int} (ha:nd a<=100000000) (hb:nd b<=100000000) (hc:nd c<=100000000) (hd:nd d<=100000000) (hb0:0<b) (hc0:c≠0) {w:World} (hL:Laid w) :
  Calls Tryz.prog 120 #[.agg #[I a,I b],.agg #[I c,I d]] w λe w'=>e = .returned (.tuple #[.agg #[I (qn (a*d) (b*c)),I (qd (a*d) (b*c))],.int .i64 0])/\Ext w w':=by
 have HL:=hid hL;have n1:=QF a d;have n2:=QF b c;have hbd:b*c≠0:=Int.mul_ne_zero (by omega) hc0;have hl:=hid (λw hL=>YA (n:=a*d) (d:=b*c) (w:=w) (by unfold LIM;omega) (by unfold LIM;omega) hbd hL);have hm1:=hid (λw hL=>Zk (a:=a) (b:=d) (w:=w) (by unfold LIM;omega) hL);have hm2:=hid (λw hL=>Zk (a:=b) (b:=c) (w:=w) (by unfold LIM;omega) hL);have hs:=hid (Ke0 c d);have hsg:(c.sign==0)=false:=beq_eq_false_iff_ne.2 (λh=>hc0 (Int.sign_eq_zero_iff_zero.1 h));generalize c.sign=sg at *;obtain ⟨x,hx⟩ : ∃x,x=qn (a*d) (b*c):=⟨_,rfl⟩
 obtain ⟨y,hy⟩ : ∃y,y=qd (a*d) (b*c):=⟨_,rfl⟩
 rw [<-hx,<-hy] at hl ⊢;clear hx hy n1 n2 hbd ha hb hc hd hb0 hc0 hL;obtain ⟨X,hXe,hX,c0,c1,c2,c3,hO⟩:=YV w 84 (I a) (I b) (I c) (I d) (.string ⟨#[]⟩) (.string ⟨#[]⟩);have HO:=hid hO;obtain ⟨bs,hbs⟩ : ∃bs,bs=w.heap.size:=⟨_,rfl⟩
 have hsz:=hX.size;clear hO
 go_enter Tryz.func120,Tryz.ntmps120
 go_wp2_with fail;rw [<-hbs] at c0 c1 c2 c3 HO ⊢;have hbs2:w.heap.size<=bs+1+1:=by omega
 clear hXe hbs;refine (hs.out _).mono ?_;rintro e w1 ⟨rfl,hE1⟩;replace c0:=hE1.cell c0;replace c1:=hE1.cell c1;replace c2:=hE1.cell c2;replace c3:=hE1.cell c3;replace HO:=hid (HO.out.ext hE1);replace hX:=hX.trans hE1;clear hE1;go_wp2_with fail;generalize w1=X at *;have d7:Ext X X.drew:=(Ext.refl X).drew;refine Kf (S:=λW=>Ext X W) 11 (by kernel_rfl) (by simp) ?_;intro inv;refine tkS (i:=0) (v := .pointer (some ⟨bs,0,none⟩)) rfl d7 inv ?_;intro inv;go_simp;refine tkA (i:=1) (v:=I a) rfl (.inl ⟨by rfl,λW hW=>by have z0:=hW.cell c0;go_simp⟩) d7 inv ?_;intro inv;go_simp;refine tkS (i:=2) (v := .pointer (some ⟨bs+1,1,none⟩)) rfl d7 inv ?_;intro inv;go_simp;refine tkA (i:=3) (v:=I d) rfl (.inl ⟨by rfl,λW hW=>by have z0:=hW.cell c3;go_simp⟩) d7 inv ?_;intro inv;go_simp;refine tkS (i:=5) (v := .pointer (some ⟨bs,1,none⟩)) rfl d7 inv ?_;intro inv;go_simp;refine tkA (i:=6) (v:=I b) rfl (.inl ⟨by rfl,λW hW=>by have z0:=hW.cell c1;go_simp⟩) d7 inv ?_;intro inv;go_simp;refine tkS (i:=7) (v := .pointer (some ⟨bs+1,0,none⟩)) rfl d7 inv ?_;intro inv;go_simp;refine tkA (i:=8) (v:=I c) rfl (.inl ⟨by rfl,λW hW=>by have z0:=hW.cell c2;go_simp⟩) d7 inv ?_;intro inv;go_simp;refine Ki (i:=4) rfl (by kernel_rfl) (λK0 hK0 => ?_);go_simp;refine (hm1.out _ (HL.out.ext (hX.trans d7))).mono ?_;rintro e w0 ⟨rfl,hF0⟩;have e0:=d7.trans hF0;refine hK0 _ _ e0 ?_;clear hK0;refine Ki (i:=9) rfl (by kernel_rfl) (λK1 hK1 => ?_);go_simp
 refine (hm2.out _ (HL.out.ext (hX.trans e0))).mono ?_;rintro e w1 ⟨rfl,hF1⟩;have e1:=e0.trans hF1;refine hK1 _ _ e1 ?_;clear hK1;refine Ki (i:=10) rfl (by kernel_rfl) (λK2 hK2 => ?_);go_simp;refine (hl.out _ (HL.out.ext (hX.trans e1))).mono ?_;rintro e w2 ⟨rfl,hF2⟩;have e2:=e1.trans hF2;refine hK2 _ _ e2 ?_;clear hK2;refine Kg (by kernel_rfl) ?_;replace HO:=hid (HO.out.ext e2);replace hX:=hX.trans e2;obtain ⟨q0,q1,f0,f1,r0,r1,hF⟩:=Qk hX hbs2 HO.out (I x) (I y);have Hres:=hid (show YM w (.tuple #[.agg #[I x,I y],.int .i64 0]) (.returned (.tuple #[.agg #[I x,I y],.int .i64 0])) _ from ⟨rfl,hF.out⟩);go_wp2_with fail;refine bodyPost_ret (v := .tuple #[.agg #[I x,I y],.int .i64 0]) (by simp [results,Tryz.results120,go_sem,r0,r1]) rfl Hres.out
theorem KdU {b:Rat} (h:b≠0):b.num≠0:=λe=>h (Rat.num_eq_zero.1 e)
theorem KmS {a b:Rat} (hb:b≠0):qmk (a.num*(b.den:Int)) ((a.den:Int)*b.num)=qR (a/b):=by
 have hbn:=KdU hb;have hd:(a.den:Int)*b.num≠0:=Int.mul_ne_zero (by have:=a.den_pos;omega) hbn;rw [Kcv hd]
 congr 1
 have e1:=X6 a;have e2:=X6 b;have h1:=KbH a;have h2:=KbH b;have h3:((b.num:Int):Rat)≠0:=by exact_mod_cast hbn
 simp only [Rat.intCast_mul];generalize ((a.den:Int):Rat)=da at *;generalize ((b.den:Int):Rat)=db at *;generalize ((a.num:Int):Rat)=na at *;generalize ((b.num:Int):Rat)=nb at *
 grind
theorem KdT {a b:Rat} (ha:SmQ a) (hb:SmQ b) (h0:b≠0) {w:World} (hL:Laid w) :
  Calls Tryz.prog 120 #[RV a,RV b] w λe w'=>e = .returned (.tuple #[RV (a/b),.int .i64 0])/\Ext w w':=by
 have h:=Kmb ha.1 ha.2 hb.1 hb.2 (den_pos' a) (KdU h0) hL;obtain ⟨e1,e2⟩:=Kcu (KmS (a:=a) h0);rw [e1,e2] at h;exact h
theorem NdQ.div {E F:Nat} {a b:Rat} (ha:NdQ E a) (hb:NdQ F b) (h0:b≠0):NdQ (E+F) (a/b):=by
 refine NdQ.mk (KmS (a:=a) h0) ?_ ?_
 ·have:=QF a.num (b.den:Int);have h1:=ha.1;have h2:=hb.2;omega
 ·have:=QF (a.den:Int) b.num;have h1:=ha.2;have h2:=hb.1;omega
theorem YH (a:Rat) (w:World):Calls Tryz.prog 119 #[RV a] w λe w'=>e = .returned (.int .i64 a.num.sign)/\Ext w w':=Ke0 a.num a.den w
section
variable {B:Nat} {w:World} {g cap n i j:Nat} {F:Mq} {ad:List (Nat×Nat)}
theorem QgX.el (h:QgX B w (slv g F.length cap) F ad) (hR:QD n F) (hi:i<F.length) (hj:j<n) :
  ∃gx cx,ad[i]? = some (gx,cx)/\w.cell? ⟨g,i,none⟩=some (slv gx n cx)/\w.cell? ⟨gx,j*2,none⟩=some (I (qa F i j).num)/\w.cell? ⟨gx,j*2+1,none⟩=some (I (qa F i j).den)/\gx≠g:=by
 obtain ⟨gx,cx,h1,h2,hO,hne,hl⟩:=h.at hR (by omega) hi;obtain ⟨k1,k2⟩:=hO.cells (i:=j) (by omega)
 have hq:qa F i j=(F.getD i [])[j]'(by omega):=by
  unfold qa;rw [List.getD_eq_getElem?_getD (l:=F.getD i []),List.getElem?_eq_getElem (by omega)];rfl
 rw [hq];exact ⟨gx,cx,h1,h2,k1,k2,hne⟩
theorem QgX.put (h:QgX B w (slv g F.length cap) F ad) (hR:QD n F) (hi:i<F.length) (hj:j<n) {gx cx:Nat} (ha:ad[i]? = some (gx,cx)) (r:Rat) :
  w.frozen? ⟨gx,j*2,none⟩=false/\w.frozen? ⟨gx,j*2+1,none⟩=false /\
   Hid (QgX B ((w.setCell ⟨gx,j*2,none⟩ (I r.num)).setCell ⟨gx,j*2+1,none⟩ (I r.den)) (slv g F.length cap) (F.set i ((F.getD i []).set j r)) ad) /\
   Hid (w.grownBy ((w.setCell ⟨gx,j*2,none⟩ (I r.num)).setCell ⟨gx,j*2+1,none⟩ (I r.den)) (some gx))/\B<=gx:=by
 obtain ⟨gx',cx',h1,h2,hO,hne,hl⟩:=h.at hR (by omega) hi;rw [h1] at ha;injection ha with ha
 injection ha with ha1 ha2
 subst ha1 ha2;obtain ⟨o2,hg⟩:=hO.set2 j r;exact ⟨hO.frozen _,hO.frozen _,hid (h.wrote hi h1 (by rw [List.length_set]) (by rw [List.length_set,hl];omega) o2 (Chg.of_grown hg rfl)),hid hg,hO.lt.1⟩
end
def BdQ (E:Nat) (F:Mq):Prop := ∀r∈F,∀x∈r,NdQ E x
def bnd (E:Nat):Nat->Nat
 | 0=>E
 | k+1=>6*bnd E k+1
theorem ZL (E:Nat) : ∀{a b:Nat},a<=b->bnd E a<=bnd E b
  | a, 0, h => by obtain rfl : a = 0 := by omega
                  exact Nat.le_refl _
  | a,b+1,h=>by
    rcases Nat.eq_or_lt_of_le h with rfl | h1
    · exact Nat.le_refl _
    · have:=ZL E (show a<=b by omega)
      show _<=6*bnd E b+1;omega
theorem Xs {E:Nat} (h:1<=E) (k:Nat):1<=bnd E k:=Nat.le_trans h (ZL E (Nat.zero_le k))
theorem NdQ.getD {E:Nat} {r:List Rat} (h : ∀x∈r,NdQ E x) (h1:1<=E) (j:Nat):NdQ E (r.getD j 0):=by
 rw [List.getD_eq_getElem?_getD]
 by_cases hj:j<r.length
 ·rw [List.getElem?_eq_getElem hj];exact h _ (List.getElem_mem hj)
 ·rw [List.getElem?_eq_none (by omega)];exact NdQ.zero h1
theorem BdQ.row {E:Nat} {F:Mq} (h:BdQ E F) (i:Nat) : ∀x∈F.getD i [],NdQ E x:=λx hx=>by
 rw [List.getD_eq_getElem?_getD] at hx
 by_cases hj:i<F.length
 ·rw [List.getElem?_eq_getElem hj] at hx;exact h _ (List.getElem_mem hj) x hx
 ·rw [List.getElem?_eq_none (by omega)] at hx;exact absurd hx (by simp)
theorem BdQ.qa {E:Nat} {F:Mq} (h:BdQ E F) (h1:1<=E) (i j:Nat):NdQ E (qa F i j):=NdQ.getD (h.row i) h1 j
theorem BdQ.mono {E D:Nat} {F:Mq} (h:BdQ E F) (hD:E<=D):BdQ D F:=λr hr x hx=>(h r hr x hx).mono hD
theorem BdQ.swap {E i j:Nat} {F:Mq} (h:BdQ E F) (hi:i<F.length) (hj:j<F.length):BdQ E (sw2 F [] i j):=λr hr=>by
 obtain ⟨t,ht,rfl⟩:=List.getElem_of_mem hr;rw [KP F [] hi hj ht];exact h _ (List.getElem_mem _)
theorem BdQ.div {E n k c:Nat} {F:Mq} (h:BdQ E F) (h1:1<=E) (hp:Go.Proofs.YtmhfccigejcphaaGreatDoor.qa F k c≠0):BdQ (2*E) (F.set k (ZH (F.getD k []) (Go.Proofs.YtmhfccigejcphaaGreatDoor.qa F k c) n)):=λr hr x hx=>by
 rcases List.mem_or_eq_of_mem_set hr with h2 | rfl
 ·exact (h r h2 x hx).mono (by omega)
 ·unfold ZH at hx;obtain ⟨t,_,rfl⟩:=List.mem_map.1 hx;split
  ·exact ((NdQ.getD (h.row k) h1 t).div (h.qa h1 k c) hp).mono (by omega)
  ·exact (NdQ.getD (h.row k) h1 t).mono (by omega)
theorem BdQ.elim {E n k c i:Nat} {F:Mq} (h:BdQ E F) (h1:1<=E):BdQ (3*E+1) (Kq F n k c i):=λr hr x hx=>by
 unfold Kq at hr;obtain ⟨t,_,rfl⟩:=List.mem_map.1 hr;split at hx
 ·unfold Xg at hx;obtain ⟨u,_,rfl⟩:=List.mem_map.1 hx;split
  ·exact ((NdQ.getD (h.row t) h1 u).sub ((h.qa h1 t c).mul (NdQ.getD (h.row k) h1 u))).mono (by omega)
  ·exact (NdQ.getD (h.row t) h1 u).mono (by omega)
 ·exact (h.row t x hx).mono (by omega)
theorem BdQ.pivot {E n k c:Nat} {F:Mq} (h:BdQ E F) (h1:1<=E) (hp:Go.Proofs.YtmhfccigejcphaaGreatDoor.qa F k c≠0):BdQ (6*E+1) (JB F n k c):=by
 have:=(h.div (n:=n) (k:=k) (c:=c) h1 hp).elim (n:=n) (k:=k) (c:=c) (i:=F.length) (by omega);exact this.mono (by omega)
theorem KoS {F:Mq} {k j:Nat} (p:Rat) (hk:k<F.length):qa (F.set k (ZH (F.getD k []) p j)) k j=qa F k j:=by
 unfold qa;rw [Zh F hk,if_pos rfl,Kab,if_neg (by omega)]
theorem Kjo {F:Mq} {n k j:Nat} (p:Rat) (hR:QD n F) (hk:k<F.length) (hj:j<n):(F.set k (ZH (F.getD k []) p j)).set k (((F.set k (ZH (F.getD k []) p j)).getD k []).set j (qa F k j/p))=F.set k (ZH (F.getD k []) p (j+1)):=by
 rw [Zh F hk,if_pos rfl,List.set_set]
 congr 1
 exact Kkp (by rw [Qi hR hk];exact hj)
theorem Kjn {F:Mq} {n k:Nat} (p:Rat) (j:Nat) (hR:QD n F) (hk:k<F.length):QD n (F.set k (ZH (F.getD k []) p j)):=Y0 hR (by rw [Yw,Qi hR hk])
theorem KqG {F:Mq} {n i k j:Nat} (f:Rat) (hR:QD n F) (hi:i<F.length) (hk:k<F.length):qa (F.set i (Xg (F.getD i []) f (F.getD k []) j)) i j=qa F i j:=by
 unfold qa;rw [Zh F hi,if_pos rfl,Kb6 (by rw [Qi hR hi,Qi hR hk]),if_neg (by omega)]
theorem KqH {F:Mq} {i k j:Nat} (f:Rat) (hi:i<F.length) (hik:i≠k):qa (F.set i (Xg (F.getD i []) f (F.getD k []) j)) k j=qa F k j:=by
 unfold qa;rw [Zh F hi,if_neg (λe=>hik e.symm)]
theorem KjQ {F:Mq} {n i k j:Nat} (f:Rat) (hR:QD n F) (hi:i<F.length) (hj:j<n):(F.set i (Xg (F.getD i []) f (F.getD k []) j)).set i (((F.set i (Xg (F.getD i []) f (F.getD k []) j)).getD i []).set j (qa F i j-f*qa F k j))=F.set i (Xg (F.getD i []) f (F.getD k []) (j+1)):=by
 rw [Zh F hi,if_pos rfl,List.set_set]
 congr 1
 exact Kla (by rw [Qi hR hi];exact hj)
theorem Kl5 {F:Mq} {n k c i:Nat} (hi:i<F.length) (hk:k<F.length):(Kq F n k c i).getD i []=F.getD i []/\(Kq F n k c i).getD k []=F.getD k []:=by
 refine ⟨?_,?_⟩
 ·rw [Xy hi,if_neg (by omega)]
 ·rw [Xy hk,if_neg (λh=>h.2 rfl)]
theorem QK (w:World) (a b:Value):Kd 84 w.heap.size (w.alloc (.cells #[a,b] 84)) w.heap.size 2 [a,b] :=
 Kd.of (Nat.le_refl _) Array.getElem?_push_size (by simp) (by unfold maxLen;omega) rfl rfl
theorem Zy {w0 W:World} {g B:Nat} {a b:Value} (h:Kd 84 B W g 2 [a,b]) (hE:Ext w0 W) (hg:w0.heap.size<=g) (x y:Value) :
  Kd 84 B ((W.setCell ⟨g,0,none⟩ x).setCell ⟨g,1,none⟩ y) g 2 [x,y]/\Ext w0 ((W.setCell ⟨g,0,none⟩ x).setCell ⟨g,1,none⟩ y)/\W.grownBy ((W.setCell ⟨g,0,none⟩ x).setCell ⟨g,1,none⟩ y) (some g):=by
 obtain ⟨h1,g1⟩:=h.set 0 x;obtain ⟨h2,g2⟩:=h1.set 1 y;have hG:=Kh g1 g2;exact ⟨h2,Kb hE hG hg,hG⟩
theorem Kr {W:World} {g B:Nat} {a b:Value} (h:Kd 84 B W g 2 [a,b]):W.cell? ⟨g,0,none⟩=some a/\W.cell? ⟨g,1,none⟩=some b/\W.frozen? ⟨g,0,none⟩=false/\W.frozen? ⟨g,1,none⟩=false :=
 ⟨h.cell (j:=0) (by simp),h.cell (j:=1) (by simp),h.frozen 0,h.frozen 1⟩
theorem Knq (w:World):Calls Tryz.prog 240 #[] w λe w'=>e = .returned (RV 1)/\Ext w w':=by
 go_enter Tryz.func240,Tryz.ntmps240
 go_wp2_with fail;have e2:Lib.itoa 1=[49]:=by decide +kernel
 exact bodyPost_ret (v:=RV 1) (by simp [results,Tryz.results240,go_sem,e2]) rfl ⟨rfl,(Ext.refl w).alloc _⟩
theorem Klh (w:World):Calls Tryz.prog 241 #[] w λe w'=>e = .returned (RV 0)/\Ext w w':=by
 go_enter Tryz.func241,Tryz.ntmps241
 go_wp2_with fail;have e1:Lib.itoa 0=[48]:=by decide +kernel
 have e2:Lib.itoa 1=[49]:=by decide +kernel
 exact bodyPost_ret (v:=RV 0) (by simp [results,Tryz.results241,go_sem,e1,e2]) rfl ⟨rfl,(Ext.refl w).alloc _⟩
end
end Go.Proofs.YtmhfccigejcphaaGreatDoor
