/- Part 41 of the proof of the claim: contracts of the functions that it reaches, and plain laws; no condition. -/
import Derived.Test.YtdmaofimeknkbaaGreatDoorQ40
import Derived.Test.YtdmaofimeknkbaaGreatDoorQ35
import Derived.Test.YtdmaofimeknkbaaGreatDoorQ38
import Derived.Test.YtdmaofimeknkbaaGreatDoorQ36
import Derived.BigQuiet
import Derived.Deep.CutRange
set_option maxRecDepth 100000
set_option maxHeartbeats 20000000
namespace Go.Proofs.YtdmaofimeknkbaaGreatDoor
section
open Go.RowKit Go.Sort
open Lib (hid)
def KlK (w:World) (n:Nat) (M:Mx) (X:List Int) (e:Ending) (w':World):Prop :=
 ∃(v:Value) (l:List Rat),e = .returned v/\l.length=n/\CoV n M (λi=>((X.getD i 0:Int):Rat)) (λj=>l.getD j 0)/\(∀x∈l,NdQ 10000000 x)/\SzV w.heap.size w' v l/\Ext w w'
def KcZ (F:Mq) (n i:Nat):List Rat:=(List.range i).map λt=>qa F t n
@[simp] theorem KcE (F:Mq) (n i:Nat):(KcZ F n i).length=i:=by simp [KcZ]
theorem KkW (F:Mq) (n i:Nat):KcZ F n i++[qa F i n]=KcZ F n (i+1):=by simp [KcZ,List.range_succ]
theorem KkV {F:Mq} {n i j:Nat} (h:j<i):(KcZ F n i).getD j 0=qa F j n:=by
 unfold KcZ;rw [List.getD_eq_getElem?_getD,List.getElem?_map,List.getElem?_range h];rfl
theorem Kmg {B:Nat} {w:World} {v:Value} {n g:Nat} {M:Mx} {vs:List Value} (hown:w.ownsRow B 38 1 v (1+M.length) ([slv g n n]++vs)) (hl:vs.length=M.length) (hO:KT w (slv g n n) (Xh n 0)) (hr : ∀i (_:i<M.length) (h':i<vs.length),KT w vs[i] M[i]):KJ w v (bsM n M):=by
 refine Kjl (B:=B) (F:=bsM n M) (vs:=slv g n n::vs) (by simp [bsM,hl]) ?_ λi h1 h2 => ?_
 ·have:(bsM n M).length=1+M.length:=by simp [bsM];omega
  rw [this];exact hown
 ·match i,h1,h2 with
  | 0,_,_=>exact hO
  | i+1,h1,h2=>exact hr i (by simpa [bsM] using h1) (by simpa using h2)
theorem Kdt {n:Nat} {M:Mx} (h:Ku n M):Ku n (bsM n M):=λr hr=>by
 rcases List.mem_cons.1 hr with rfl | h1
 ·simp
 ·exact h r h1
theorem KjC {n:Nat} {M:Mx} {vl:List Int} (h:BkM n M vl) (i j:Nat):I64 (eM (bsM n M) i j):=by
 match i with
 | 0 =>
  rw [QH M (by have:=h.hn;omega)];split<;>(unfold I64;omega)
 | i+1 =>
  rw [JM];have h1:(-8:Int)<=eM M i j:=Rat.intCast_le_intCast.1 (h.el i j).1;have h2:eM M i j<=(8:Int):=Rat.intCast_le_intCast.1 (h.el i j).2;unfold I64;omega
theorem Kd.rowR {B:Nat} {w:World} {g cap:Nat} {l:List Int} (h:Kd 3 B w g cap (is l)):KT w (slv g l.length cap) l:=by
 have h2:=h.sl;have hc:=h.cap;rw [Kq] at hc;exact ⟨_,g,0,cap,rfl,hc,h2⟩
theorem KkD {w:World} {b n cp:Nat} {sp:Option Addr} {vu vx:Value} {M:Mx} {X vl:List Int} (hB:BkM n M vl) (c0:w.cell? ⟨b,0,none⟩=some (.slice sp n cp)) (c1:w.cell? ⟨b,1,none⟩=some vu) (hM:KJ w vu M) (hx:KT w vx X) (hX:X.length=n)
  (hXb : ∀z∈X,-1000000000<=z/\z<=1000000000) (hL:Laid w) :
  Calls Tryz.prog 70 #[.pointer (some ⟨b,0,none⟩),vx] w (KlK w n M X):=by
 have hn:=hB.hn;have hn0:0<n:=by omega
 have hn3:n<=3:=by omega
 have hMl:=hB.len;obtain ⟨i0,hi,hz0,hz1,hz2⟩:=info_parts Tryz.infoLRat;obtain ⟨sa,gm,om,cap,vs,rfl,hcap,hvl,hS,hr⟩:=hM;obtain ⟨sx,gx,ox,cx,rfl,hcx,hSx⟩:=hx;rw [hX] at hcx ⊢;have HS:=hid hS;have HV:=hid hvl;have HR:=hid hr;have HSx:=hid hSx;have HX:=hid hX;have HXb:=hid hXb;have HB:=hid hB;have HL:=hid hL;have hun:=hid (Keh (w:=w) (n:=n) (i:=0) (by omega) hn0);obtain ⟨m,hm⟩ : ∃m,m=M.length:=⟨_,rfl⟩
 have hm0:0<m:=by omega
 have hmn:1+m=n:=by omega
 have hm2:m<=2:=by omega
 have Hmn:=hid hmn;have Hm:=hid hm;rw [<-hm] at hcap c1;clear hS hvl hr hSx hX hXb hB hL hn hMl hmn hm
 go_enter Tryz.func70,Tryz.ntmps70
 go_wp2_with fail;refine hun.out.mono ?_;rintro e X1 ⟨ge,rfl,hO,hE1⟩;have c1:=((Ext.refl X1).alloc (.cells #[slv ge n n] 38)).cell (hE1.cell c1);have hO2:=hid hO;have hsz1:=hE1.size;have H1:=hid (show Kd 38 X1.heap.size (X1.alloc (.cells #[slv ge n n] 38)) X1.heap.size 1 [slv ge n n] from Kd.of (Nat.le_refl _) Array.getElem?_push_size (by simp) (by unfold maxLen;omega) rfl rfl)
 have h1v:=hid (show ∀u∈vs,u.oneCell'=true from λu hu=>by
  obtain ⟨i,hi,rfl⟩:=List.getElem_of_mem hu
  exact (HR.out i (by rw [<-HV.out];exact hi) hi).one)
 have hal:=hE1.alloc (.cells #[slv ge n n] 38);have hS4:=hid (HS.out.ext hal);clear hun hO;go_upto_region 4 with (at_builtin;refine Kin rfl _ _ rfl (B:=X1.heap.size) (n:=1) (xs:=[slv ge n n]) rfl H1.out rfl hS4.out (by rw [HV.out,Hm.out]) hm0 h1v.out (by omega) (by simp) ?_;intro v8 w4 hO4 hB4)
 have hE4:Ext X1 w4:=Below.trans ((Ext.refl X1).alloc (.cells #[slv ge n n] 38)) hB4;have hcols:=hid (show KJ w4 v8 (bsM n M) from Kmg (by rw [<-Hm.out];exact hO4) HV.out (by have:=(Kd.rowR hO2.out).ext hE4;rw [Jv] at this;exact this) (λi a b=>(HR.out i a b).ext (hE1.trans hE4)))
 obtain ⟨g8,c8,hv8⟩ : ∃g8 c8,v8=slv g8 n c8:=by
  rcases hO4.2 with ⟨_,h0⟩ | ⟨g,cap,cur,rfl,_⟩
  ·omega
  ·exact ⟨g,cap,by rw [Hmn.out]⟩
 subst hv8;have hbl:=Ye (n:=n) (M:=M) (by rw [<-Hm.out];have:=Hmn.out;omega);obtain ⟨gc,oc,hsc,hcr⟩:=hcols.out.elZ hbl.symm (Kdt HB.out.rect) hn0;have hsc:=hsc hn0;injection hsc with hsc
 injection hsc with q1 q2
 subst q1 q2;have hE4w:=hE1.trans hE4;have HCR:=hid hcr
 have hn8:n<=c8:=by
  rcases hO4.2 with ⟨e,_⟩ | ⟨g,cap,cur,e,_,_,hh,_⟩
  ·cases e
  ·injection e with _ _ e3;omega
 have HS4:=hid (HSx.out.ext hE4w);clear hcr hcols hO4 hB4 hal hS4 h1v H1 hE4 hO2 hbl hE1 hsz1 c1 HSx HS HR HV;go_wp2_with (at_make;refine wpList_make_full _ rfl _ _ 101 rfl w4.heap.size 32 i0 (.slice none 0 0) 1 Tryz.underlying101 hi hz0 hz1 .i64 .i64 _ _ n rfl rfl (by omega) (by omega) (by rw [hz2];omega) (by unfold maxLen;omega) (Nat.le_refl _) ?_;intro w5 hown5 hgrow5)
 have hE5:=KR hgrow5;have hG0:=hid (Kkw (G:=eqF n M X) hown5 (Xn n M X));obtain ⟨g,hgq⟩ : ∃g,g=w4.heap.size:=⟨_,rfl⟩
 have hgB:w4.heap.size<=g:=by omega
 rw [<-hgq] at hG0 ⊢;clear hown5 hgrow5 hgq;go_wp2_with fail
 go_loopw [45] (λidx wr => ∃(i:Nat) (ad:List (Nat×Nat)),i<=n/\idx = .int .i64 i/\Hid (QgX w4.heap.size wr (slv g n n) (ZL (eqF n M X) i 0) ad)/\Ext w4 wr) (λidx _=>n-(intOf idx).toNat)
 case atStart=>exact ⟨0,_,by omega,by go_num,hid (hG0.out.mono hgB),hE5⟩
 case round =>
  clear hG0 hE5;obtain ⟨i,ad,hi',rfl,hG,hE⟩:=hrel;generalize wr=U at *
  by_cases hin:i<n
  ·have hii:(i:Int)<(n:Int):=by omega
   go_wp2_with fail
   go_loopw [50] (λidx wr => ∃(j:Nat) (ad:List (Nat×Nat)),j<=n/\idx = .int .i64 j/\Hid (QgX w4.heap.size wr (slv g n n) (ZL (eqF n M X) i j) ad)/\Ext w4 wr) (λidx _=>n-(intOf idx).toNat)
   case atStart=>exact ⟨0,ad,by omega,by go_num,hG,hE⟩
   case round =>
    clear hG hE ad;obtain ⟨j,ad,hj',rfl,hG,hE⟩:=hrel;generalize wr=Y at *;have hGl:=Xn n M X;have hgrid:QgX w4.heap.size Y (slv g (ZL (eqF n M X) i j).length n) (ZL (eqF n M X) i j) ad:=by rw [JL,hGl];exact hG.out
    obtain ⟨hc0,hSz⟩:=hgrid.hv (i:=i) (by rw [JL,hGl];exact hin);have hrl:=KdI (n:=n) (M:=M) HB.out.len X i;rw [<-Kf9 M X hin] at hrl;have Hrl:=hid hrl;have hbr:=KfZ (G:=eqF n M X) (i:=i) (j:=j) (by rw [hGl];exact hin);have hrj:((ZL (eqF n M X) i j).getD i []).length=j:=by rw [hbr,List.length_take,hrl];omega
    have Hrj:=hid hrj;have HSz:=hid hSz;have HGl:=hid hGl;obtain ⟨hv,hhv⟩ : ∃hv,hv=hvX (ZL (eqF n M X) i j) ad i:=⟨_,rfl⟩
    rw [<-hhv] at hc0 HSz;have Hhv:=hid hhv;clear hhv hgrid hSz hrl hbr hrj hGl
    by_cases hjn:j<n
    ·have hji:(j:Int)<(n:Int):=by omega
     obtain ⟨gr,or,cr,k1,k2⟩:=HCR.out j hjn;obtain ⟨z,hz⟩ : ∃z,z=eM (bsM n M) j i:=⟨_,rfl⟩
     have k3:=k2 i hin;rw [<-hz] at k3;have hz64:=hid (show I64 z by rw [hz];exact KjC HB.out j i);have Hel:=hid (show (z:Rat)=((eqF n M X).getD i []).getD j 0 by rw [hz];exact (Kiw HB.out.len X hin hjn).symm);rw [Nat.zero_add] at k1;have hblk:gr<w4.heap.size:=World.block_lt_of_cell? _ _ k3;have k1:=hE.cell k1;have k3:=hE.cell k3;clear k2 hz;go_wp2_with fail;have d0:Ext Y Y.drew:=(Ext.refl Y).drew;refine Ke (S:=λW=>W.cell? ⟨g,i,none⟩=some hv/\W.cell? ⟨gr,or+i,none⟩=some (.int .i64 z)) 13 (by kernel_rfl) (by simp) ?_;intro inv;generalize Y.drew=Yd at *;have hs0:Yd.cell? ⟨g,i,none⟩=some hv/\Yd.cell? ⟨gr,or+i,none⟩=some (.int .i64 z):=⟨d0.cell hc0,d0.cell k3⟩
     refine tkS (i:=0) (v:=slv g n n) rfl hs0 inv ?_;intro inv;go_simp;refine tkS (i:=1) (v := .int .i64 i) rfl hs0 inv ?_;intro inv;go_simp;refine tkS (i:=2) (v:=slv g n n) rfl hs0 inv ?_;intro inv;go_simp;refine tkS (i:=3) (v := .int .i64 i) rfl hs0 inv ?_;intro inv;go_simp;refine tkS (i:=4) (v := .pointer (some ⟨g,i,none⟩)) rfl hs0 inv ?_;intro inv;go_simp;refine tkA (i:=5) (v:=hv) rfl (.inl ⟨by rfl,λW hW=>by have q0:=hW.1;go_simp⟩) hs0 inv ?_;intro inv;go_simp;refine tkS (i:=6) (v := .slice (some ⟨gr,or,none⟩) n cr) rfl hs0 inv ?_;intro inv;go_simp;refine tkS (i:=7) (v := .int .i64 i) rfl hs0 inv ?_;intro inv;go_simp;refine tkS (i:=8) (v := .pointer (some ⟨gr,or+i,none⟩)) rfl hs0 inv ?_;intro inv;go_simp;refine tkA (i:=9) (v := .int .i64 z) rfl (.inl ⟨by rfl,λW hW=>by have q0:=hW.2;go_simp⟩) hs0 inv ?_;intro inv;go_simp;refine Kf (i:=10) rfl (by kernel_rfl) inv (λinv K0 hK0 => ?_);go_simp;refine (Kg9 hz64.out (HL.out.ext (hE4w.trans (hE.trans d0)))).mono ?_;rintro e V ⟨rfl,hGc⟩;have d1:=d0.trans hGc;refine hK0 _ _ ⟨d1.cell hc0,d1.cell k3⟩ ?_;clear hK0;have hGV:=hid (hG.out.ext d1);have hEV:=hE.trans d1;have HSV:=hid (HSz.out.ext d1);have hVs:=hEV.size;obtain ⟨r,hrq⟩ : ∃r,r=(z:Rat):=⟨_,rfl⟩
     rw [<-hrq] at Hel ⊢;have c1V:=hid (d1.cell k3);have c0V:=hid (d1.cell hc0);clear hG hE hz64 hrq HSz hc0 k3 d0 hs0;refine Kf (i:=11) rfl (by kernel_rfl) inv (λinv K1 hK1 => ?_);go_simp;have ea:=(Ext.refl V).alloc (.cells #[I r.num,I r.den] 47);refine hK1 _ _ ⟨ea.cell c0V.out,ea.cell c1V.out⟩ ?_;clear hK1;refine Kf (i:=12) rfl (by kernel_rfl) inv (λinv K2 hK2 => ?_);refine ZK rfl _ _ 32 Tryz.underlying32 rfl rfl (HSV.out.ext ea) (b:=V.heap.size) rfl (r:=r) (by go_simp) (by go_simp) (by rw [Hrj.out];omega) (by simp;omega) ?_;intro gg cap2 w8 hO8 hB8 hG8 hN8;rw [Hrj.out];rw [Hel.out] at hO8;rw [Hhv.out] at hG8 hN8;obtain ⟨Hq,Hgr,hfz,hgB2,hcz⟩:=KgK (hGV.out.ext ea) HGl.out hin (by rw [Hrl.out];omega) hG8 hO8 hN8;have HE8:=hid (Kb (Below.trans (hEV.alloc _) hB8) Hgr.out hgB2);refine hK2 _ _ ⟨by rw [Hhv.out];exact hcz,by rw [hB8.cell (p:=⟨gr,or+i,none⟩) hblk];exact ea.cell c1V.out⟩ ?_;clear hG8 hN8 hO8 hB8 Hgr hK2 ea;refine Ki (by kernel_rfl) ?_;go_wp2_with fail;go_roundw
     case rel=>exact ⟨j+1,_,by omega,by go_num,Hq,HE8.out⟩
     case measure=>simp [intOf]<;>omega
    ·obtain rfl:n=j:=by omega
     obtain ⟨z,hz⟩ : ∃z,z=X.getD i 0:=⟨_,rfl⟩
     have hiX:i<X.length:=by rw [HX.out];exact hin
     have hzX:z=X[i]:=by rw [hz,Ka hiX]
     have hblk:gx<w4.heap.size:=World.block_lt_of_cell? _ _ (HS4.out.cell i (.int .i64 z) (by rw [hzX];exact Qg hiX));have k3:=hE.cell (HS4.out.cell i (.int .i64 z) (by rw [hzX];exact Qg hiX));obtain rfl:=HS4.out.addr (by simp;omega);have hz64:=hid (show I64 z by have:=HXb.out z (by rw [hzX];exact List.getElem_mem hiX);unfold I64;omega);have Hel:=hid (show (z:Rat)=((eqF n M X).getD i []).getD n 0 by rw [hz];exact (Kg4 HB.out.len X hin).symm);clear hz hiX hzX;go_wp2_with fail;have d0:Ext Y Y.drew:=(Ext.refl Y).drew;refine Ke (S:=λW=>W.cell? ⟨g,i,none⟩=some hv/\W.cell? ⟨gx,ox+i,none⟩=some (.int .i64 z)) 13 (by kernel_rfl) (by simp) ?_;intro inv;generalize Y.drew=Yd at *;have hs0:Yd.cell? ⟨g,i,none⟩=some hv/\Yd.cell? ⟨gx,ox+i,none⟩=some (.int .i64 z):=⟨d0.cell hc0,d0.cell k3⟩
     refine tkS (i:=0) (v:=slv g n n) rfl hs0 inv ?_;intro inv;go_simp;refine tkS (i:=1) (v := .int .i64 i) rfl hs0 inv ?_;intro inv;go_simp;refine tkS (i:=2) (v:=slv g n n) rfl hs0 inv ?_;intro inv;go_simp;refine tkS (i:=3) (v := .int .i64 i) rfl hs0 inv ?_;intro inv;go_simp;refine tkS (i:=4) (v := .pointer (some ⟨g,i,none⟩)) rfl hs0 inv ?_;intro inv;go_simp;refine tkA (i:=5) (v:=hv) rfl (.inl ⟨by rfl,λW hW=>by have q0:=hW.1;go_simp⟩) hs0 inv ?_;intro inv;go_simp;refine tkS (i:=6) (v := .slice (some ⟨gx,ox,none⟩) n cx) rfl hs0 inv ?_;intro inv;go_simp;refine tkS (i:=7) (v := .int .i64 i) rfl hs0 inv ?_;intro inv;go_simp;refine tkS (i:=8) (v := .pointer (some ⟨gx,ox+i,none⟩)) rfl hs0 inv ?_;intro inv;go_simp;refine tkA (i:=9) (v := .int .i64 z) rfl (.inl ⟨by rfl,λW hW=>by have q0:=hW.2;go_simp⟩) hs0 inv ?_;intro inv;go_simp;refine Kf (i:=10) rfl (by kernel_rfl) inv (λinv K0 hK0 => ?_);go_simp;refine (Kg9 hz64.out (HL.out.ext (hE4w.trans (hE.trans d0)))).mono ?_;rintro e V ⟨rfl,hGc⟩;have d1:=d0.trans hGc;refine hK0 _ _ ⟨d1.cell hc0,d1.cell k3⟩ ?_;clear hK0;have hGV:=hid (hG.out.ext d1);have hEV:=hE.trans d1;have HSV:=hid (HSz.out.ext d1);have hVs:=hEV.size;obtain ⟨r,hrq⟩ : ∃r,r=(z:Rat):=⟨_,rfl⟩
     rw [<-hrq] at Hel ⊢;have c1V:=hid (d1.cell k3);have c0V:=hid (d1.cell hc0);clear hG hE hz64 hrq HSz hc0 k3 d0 hs0;refine Kf (i:=11) rfl (by kernel_rfl) inv (λinv K1 hK1 => ?_);go_simp;have ea:=(Ext.refl V).alloc (.cells #[I r.num,I r.den] 47);refine hK1 _ _ ⟨ea.cell c0V.out,ea.cell c1V.out⟩ ?_;clear hK1;refine Kf (i:=12) rfl (by kernel_rfl) inv (λinv K2 hK2 => ?_);refine ZK rfl _ _ 32 Tryz.underlying32 rfl rfl (HSV.out.ext ea) (b:=V.heap.size) rfl (r:=r) (by go_simp) (by go_simp) (by rw [Hrj.out];omega) (by simp;omega) ?_;intro gg cap2 w8 hO8 hB8 hG8 hN8;rw [Hrj.out];rw [Hel.out] at hO8;rw [Hhv.out] at hG8 hN8;obtain ⟨Hq,Hgr,hfz,hgB2,hcz⟩:=KgK (hGV.out.ext ea) HGl.out hin (by rw [Hrl.out];omega) hG8 hO8 hN8;have HE8:=hid (Kb (Below.trans (hEV.alloc _) hB8) Hgr.out hgB2);refine hK2 _ _ ⟨by rw [Hhv.out];exact hcz,by rw [hB8.cell (p:=⟨gx,ox+i,none⟩) hblk];exact ea.cell c1V.out⟩ ?_;clear hG8 hN8 hO8 hB8 Hgr hK2 ea;refine Ki (by kernel_rfl) ?_;go_wp2_with fail;go_roundw
     case rel=>exact ⟨i+1,_,by omega,by go_num,hid (by rw [<-Kku (i:=i) (j:=n+1) (by rw [Hrl.out];exact Nat.le_refl _)];exact Hq.out),HE8.out⟩
     case measure=>simp [intOf]<;>omega
  ·obtain rfl:n=i:=by omega
   have hG2:=hG.out;have hbe:ZL (eqF n M X) n 0=eqF n M X:=by have:=Kl1 (eqF n M X);rw [Xn] at this;exact this
   rw [hbe] at hG2;obtain ⟨q,hq⟩ : ∃q,q=n+1:=⟨_,rfl⟩
   have hq1:n<q:=by omega
   have hq0:0<q:=by omega
   have hq4:q<=4:=by omega
   have Hq:=hid hq;have hRq:=Kms HB.out.len X;rw [<-hq] at hRq;have hGl:=Xn n M X;obtain ⟨bL,hbL⟩ : ∃bL,bL=U.heap.size:=⟨_,rfl⟩
   have HM:=hid (show FkM w4.heap.size g n q bL (eqF n M X) ad U by rw [hbL];exact FkM.of (by rw [hGl];exact hG2) hRq hq0);have HR0:=hid (show RrI n q 0 (eqF n M X) (List.range 0) from RrI.start hRq hGl);have HF:=hid (KpT (n:=n) (M:=M) (X:=X) HB.out.bd HXb.out);have hbLU:U.heap.size<=bL/\bL<=U.heap.size:=by omega
   have Hbd:=hid (Kl3 (k:=n) (by omega));have hwL:w4.heap.size<=bL:=by rw [hbL];exact hE.size
   have HEU:=hid hE;clear hG hG2 hbe hq hRq hGl hbL hE HS4 HCR HXb HX;go_wp2_with fail
   go_loopw [85] (λidx wr => ∃(c:Nat) (F1:Mq) (ad1:List (Nat×Nat)),c<=n/\idx = .int .i64 c/\Hid (FkI w4.heap.size g n n q 31 bL c (eqF n M X) F1 ad1 wr)/\Ext w4 wr/\Hid (KaN bL wr)) (λidx _=>n-(intOf idx).toNat)
   case atStart=>exact ⟨0,_,ad,by omega,by go_num,hid ⟨HM.out,HR0.out,Q2.refl _ _,HF.out⟩,HEU.out,hid (show KaN bL U from hbLU.2)⟩
   case round =>
    clear HM HR0 HF HEU hbLU;obtain ⟨c,F1,ad1,hcc,rfl,hI,hE1,hsU⟩:=hrel;clear ad;generalize wr=U2 at *;have hF1:F1.length=n:=by rw [hI.out.red.len]
    by_cases hcl:c<n
    ·have hci:(c:Int)<(n:Int):=by omega
     have hcq:c<q:=by omega
     have HBD:=hid (hI.out.bds hcl (by omega) Hbd.out);have Hmu:=hid (hI.out.must HB.out Hq.out hcl);go_wp2_with fail
     go_loopw [14] (λat' wr => ∃a,c<=a/\a<n/\at' = .int .i64 (a:Nat)/\Hid (∀i,c<=i->i<a->qa F1 i c=0)/\Ext U2 wr) (λat' _=>n-(intOf at').toNat)
     case atStart=>exact ⟨c,Nat.le_refl _,hcl,rfl,hid (λi h2 h3=>by omega),Ext.refl _⟩
     case round =>
      obtain ⟨a,ha1,ham,rfl,hz,hEV⟩:=hrel;generalize wr=V at *;have hami:(a:Int)<(n:Int):=by omega
      obtain ⟨gx,cx,ea,c1,c2,c3,_,hgb⟩:=(hI.out.mem.ext hEV).el (i:=a) (by omega) hcq;have Hcx:=hid (hI.out.mem.room hq0 (i:=a) (by omega) ea);have hcxq:q<=cx:=Hcx.out;have hci':(c:Int)<(q:Int):=by omega
      have hsg:(qa F1 a c).num.sign=0↔qa F1 a c=0:=by rw [Int.sign_eq_zero_iff_zero,Rat.num_eq_zero]
      obtain ⟨sg,hsq⟩ : ∃sg,sg=(qa F1 a c).num.sign:=⟨_,rfl⟩
      have hsn:=hid (YF (qa F1 a c));rw [<-hsq] at hsg hsn;have Hq2:=hid hsg;clear hsq hsg;go_wp2_with fail;refine (hsn.out _).mono ?_;rintro e V2 ⟨rfl,hE3⟩;have hEV2:=hEV.trans hE3
      by_cases hs0:sg=0
      ·have hz0:=hid (Hq2.out.1 hs0)
       have hz':Hid (∀i,c<=i->i<a+1->qa F1 i c=0):=hid (λi h2 h3=>by
        rcases Nat.lt_or_ge i a with h4 | h4
        ·exact hz.out i h2 h4
        ·obtain rfl:i=a:=by omega
         exact hz0.out)
       have ha2:a+1<n:=by
        obtain ⟨k,h2,h3,h4⟩:=Hmu.out
        rcases Nat.lt_or_ge k (a+1) with h5 | h5
        ·exact absurd (hz'.out k h2 h5) h4
        ·omega
       subst hs0;clear hE3 c1 c2 c3 hsn Hq2 hz0;go_wp2_with fail;go_roundw
       case rel=>exact ⟨a+1,by omega,ha2,by go_num,hz',hEV2⟩
       case measure=>simp [intOf]<;>omega
      ·have hz0:=hid (λq=>hs0 (Hq2.out.2 q));have hsb0:(sg==0)=false:=beq_eq_false_iff_ne.2 hs0;clear hz hsn Hq2 c1 c2 c3 ea hE3 Hcx hcxq;have hI2:=hid (hI.out.ext hEV2);have hE2:=hE1.trans hEV2;have hs2:=hid (hsU.out.to hEV2.size);clear hEV hEV2 hE1 hI hsU;go_upto_region 21 with fail
       go_cut [] from 100 to 113 (λwx => ∃(F2:Mq) (ad2:List (Nat×Nat)),Hid (FkI w4.heap.size g n n q 31 bL c (eqF n M X) F2 ad2 wx/\qa F2 c c≠0)/\Ext w4 wx/\Hid (KaN bL wx))
       case first =>
        obtain ⟨gi,ci,ei,ki,_,_,_,_⟩:=hI2.out.mem.el (i:=c) (by omega) hcq;obtain ⟨gj,cj,ej,kj,_,_,_,_⟩:=hI2.out.mem.el (i:=a) (by omega) hcq;obtain ⟨hS,hSg,q0,q1,hgB2⟩:=hI2.out.mem.swap hq0 (i:=c) (j:=a) (by omega) (by omega) ei ej;have hS':=hid hS;have hmid:=hI2.out.mem.mid (i:=c) (j:=a) (by omega) kj;have hEg:=hid (Kb hE2 hSg hgB2);have hs3:=hid (hs2.out.to hSg.size);clear ei ej hS hSg
        go_region
        (try go_wp2_with fail)
        go_meet;exact ⟨_,_,hid ⟨hI2.out.swap ha1 ham (hS'.out.out.ext ((Ext.refl _).drew)),by rw [Kj4 (by omega) (by omega)];exact hz0.out⟩,hEg.out.drew,hid (show KaN bL (World.drew _) from hs3.out)⟩
       case rest =>
        obtain ⟨F2,ad2,hI3,hE3,hs3⟩:=hcut;generalize wc=Y at *;clear hI2 hE2 hz0 hs0 hgb hs2;have hF2:F2.length=n:=by rw [hI3.out.1.red.len]
        have HBD2:=hid (hI3.out.1.bds hcl (by omega) Hbd.out);obtain ⟨gk,ck,ek,y1,y2,y3,_,hgkb⟩:=hI3.out.1.mem.el (i:=c) (by omega) hcq;obtain ⟨p,hp⟩ : ∃p,p=qa F2 c c:=⟨_,rfl⟩
        rw [<-hp] at y2 y3;have Hp:=hid hp;have hp0:=hid (show p≠0 by rw [hp];exact hI3.out.2);have hpS:=hid (show SmQ p by rw [hp];exact (HBD2.out _ _).smQ (by omega));have HP9:=hid (Zg Y (I p.num) (I p.den));have eA:Ext Y (Y.alloc (.cells #[I p.num,I p.den] 47)):=(Ext.refl Y).alloc _;have hb9:bL<=Y.heap.size:=hs3.out;have hck:q<=ck:=hI3.out.1.mem.room hq0 (i:=c) (by omega) ek;have Hck:=hid hck;have hcqi:(c:Int)<(q:Int):=by omega
        have HMY:=hid (hI3.out.1.mem.ext eA);have hEB:=hE3.trans eA;have hyw:=hE3.size;have hsB:=hid (hs3.out.to eA.size);clear hp;go_upto_region 23 with fail;have y1:=eA.cell y1;generalize Y.alloc (.cells #[I p.num,I p.den] _)=Y1 at *;obtain ⟨b9,hb9q⟩ : ∃b9,b9=Y.heap.size:=⟨_,rfl⟩
        rw [<-hb9q] at HP9 hb9 hyw ⊢;have hO9:=hid (HP9.out.mono hyw);clear hb9q y2 y3 HP9 eA hE3 hs3;go_wp2_with fail
        go_loopw [126] (λidx wr => ∃(j:Nat),j<=q/\idx = .int .i64 j/\Hid (FkM w4.heap.size g n q bL (F2.set c (ZI (F2.getD c []) p j)) ad2 wr)/\Hid (Kd 47 w4.heap.size wr b9 2 [I p.num,I p.den])/\Ext w4 wr/\Hid (KaN bL wr)) (λidx _=>q-(intOf idx).toNat)
        case atStart=>exact ⟨0,by omega,by go_num,hid (by rw [Kfe,KbA];exact HMY.out),hO9,hEB,hsB⟩
        case round =>
         clear HMY hO9 hEB hsB y1;obtain ⟨j,hj,rfl,hMj,hOj,hEj,hsj⟩:=hrel;generalize wr=Z at *;have hR2:=hid hI3.out.1.mem.rect
         by_cases hjn:j<q
         ·have hji:(j:Int)<(q:Int):=by omega
          have hkl:c<(F2.set c (ZI (F2.getD c []) p j)).length:=by rw [List.length_set];omega
          obtain ⟨gk',ck',ek',y1,y2,y3,_,_⟩:=hMj.out.el (i:=c) hkl hjn;obtain ⟨x,hx⟩ : ∃x,x=qa F2 c j:=⟨_,rfl⟩
          rw [Kpl p (by omega),<-hx] at y2 y3;rw [ek] at ek';injection ek' with ek'
          injection ek' with q1 q2
          subst q1 q2;obtain ⟨t0,t1,_,_⟩:=Ky hOj.out;obtain ⟨xq,hxq⟩ : ∃xq,xq=x/p:=⟨_,rfl⟩
          have Hxq:=hid (show xq=qa F2 c j/p by rw [hxq,hx]);have hxS:=hid (show SmQ x by rw [hx];exact (HBD2.out _ _).smQ (by omega));have Hdiv:=hid (λX (hX:Ext Z X)=>Kd9 hxS.out hpS.out hp0.out (w:=X) (HL.out.ext (hE4w.trans (hEj.trans hX))));rw [<-hxq] at Hdiv;have Hput:=hid (λX (hX:Ext Z X)=>(hMj.out.ext hX).put hkl hjn ek xq);clear hx hxq;go_wp2_with fail;have dd:Ext Z Z.drew:=(Ext.refl Z).drew;refine Z8 (S:=λW=>Ext Z W) 18 19 (by kernel_rfl) (by kernel_rfl) ?_;generalize Z.drew=Z1 at *;refine Kc (i:=0) (v:=slv g n n) rfl (by kernel_rfl) (λ_ _ _ h=>h) (.inl ⟨by rfl,λW hW=>by go_simp⟩) dd ?_;go_simp;refine Kc (i:=1) (v := .int .i64 c) rfl (by kernel_rfl) (λ_ _ _ h=>h) (.inl ⟨by rfl,λW hW=>by go_simp⟩) dd ?_;go_simp;refine Kc (i:=2) (v := .pointer (some ⟨g,c,none⟩)) rfl (by kernel_rfl) (λ_ _ _ h=>h) (.inl ⟨by rfl,λW hW=>by go_simp⟩) dd ?_;go_simp;refine Kc (i:=3) (v:=slv gk q ck) rfl (by kernel_rfl) (λ_ _ _ h=>h) (.inl ⟨by rfl,λW hW=>by have q0:=hW.cell y1;go_simp⟩) dd ?_;go_simp;refine Kc (i:=4) (v := .int .i64 j) rfl (by kernel_rfl) (λ_ _ _ h=>h) (.inl ⟨by rfl,λW hW=>by go_simp⟩) dd ?_;go_simp;refine Kc (i:=5) (v:=slv g n n) rfl (by kernel_rfl) (λ_ _ _ h=>h) (.inl ⟨by rfl,λW hW=>by go_simp⟩) dd ?_;go_simp;refine Kc (i:=6) (v := .int .i64 c) rfl (by kernel_rfl) (λ_ _ _ h=>h) (.inl ⟨by rfl,λW hW=>by go_simp⟩) dd ?_;go_simp
          refine Kc (i:=7) (v := .pointer (some ⟨g,c,none⟩)) rfl (by kernel_rfl) (λ_ _ _ h=>h) (.inl ⟨by rfl,λW hW=>by go_simp⟩) dd ?_;go_simp;refine Kc (i:=8) (v:=slv gk q ck) rfl (by kernel_rfl) (λ_ _ _ h=>h) (.inl ⟨by rfl,λW hW=>by have q0:=hW.cell y1;go_simp⟩) dd ?_;go_simp;refine Kc (i:=9) (v := .int .i64 j) rfl (by kernel_rfl) (λ_ _ _ h=>h) (.inl ⟨by rfl,λW hW=>by go_simp⟩) dd ?_;go_simp;refine Kc (i:=10) (v := .pointer (some ⟨gk,j*2,none⟩)) rfl (by kernel_rfl) (λ_ _ _ h=>h) (.inl ⟨by rfl,λW hW=>by go_simp⟩) dd ?_;go_simp;refine Kc (i:=11) (v:=RV x) rfl (by kernel_rfl) (λ_ _ _ h=>h) (.inl ⟨by rfl,λW hW=>by have q0:=hW.cell y2;have q1:=hW.cell y3;go_simp⟩) dd ?_;go_simp;refine Kc (i:=12) (v:=RV p) rfl (by kernel_rfl) (λ_ _ _ h=>h) (.inl ⟨by rfl,λW hW=>by have q0:=hW.cell t0;have q1:=hW.cell t1;go_simp⟩) dd ?_;go_simp;refine KA (i:=13) rfl (by kernel_rfl) (λK0 hK0 => ?_);go_simp;refine (Hdiv.out _ dd).mono ?_;rintro e Z2 ⟨rfl,hG4⟩;have dd2:=dd.trans hG4;refine hK0 _ _ (λ_=>dd2) ?_;clear hK0;refine KA (i:=14) rfl (by kernel_rfl) (λK0 hK0 => ?_);go_simp;refine hK0 _ _ (λ_=>dd2) ?_;clear hK0;refine Kc (i:=15) (v:=RV xq) rfl (by kernel_rfl) (λ_ _ _ h=>h) (.inl ⟨by rfl,λW hW=>by go_simp⟩) dd2 ?_;go_simp
          refine Kc (i:=17) (v := .pointer (some ⟨gk,j*2,none⟩)) rfl (by kernel_rfl) (λ_ _ _ h=>h) (.inl ⟨by rfl,λW hW=>by go_simp⟩) dd2 ?_;go_simp;obtain ⟨f0,f1,HP,Hgr,hgB2,hgb2⟩:=Hput.out _ dd2;have hO2:=hid ((hOj.out.ext dd2).other Hgr.out (by omega));have hE2:=Kb (hEj.trans dd2) Hgr.out hgB2;have HP2:=hid HP.out;rw [Hxq.out,KjL p hR2.out (by omega) hjn] at HP2;rw [<-Hxq.out] at HP2;have y2:=dd2.cell y2;have y3:=dd2.cell y3;have hEq:Hid (Ext w4 ((Z2.setCell ⟨gk,j*2,none⟩ (I xq.num)).setCell ⟨gk,j*2+1,none⟩ (I xq.den))):=hid hE2;have hsq:=hid ((hsj.out.to dd2.size).to Hgr.out.size);clear Hput Hdiv dd hG4 y1 t0 t1 hE2 HP Hgr hEj hOj hMj hsj;refine Jz (i:=16) (j:=18) rfl rfl (by kernel_rfl) (λK0 hK0 => ?_) (λK0 hK0 => ?_)
          ·go_simp;refine hK0 _ _ (λ_=>dd2) ?_;clear hK0;refine KA (i:=18) rfl (by kernel_rfl) (λK0 hK0 => ?_);go_simp;refine hK0 _ _ (λhh=>by cases hh) ?_;clear hK0;refine QD (by kernel_rfl) ?_;go_wp2_with fail;go_roundw
           case rel=>exact ⟨j+1,by omega,by go_num,HP2,hO2,hEq.out,hsq⟩
           case measure=>simp [intOf]<;>omega
          ·go_simp;refine hK0 _ _ (λhh=>by cases hh) ?_;clear hK0;refine KA (i:=16) rfl (by kernel_rfl) (λK0 hK0 => ?_);go_simp;refine hK0 _ _ (λhh=>by cases hh) ?_;clear hK0;refine QD (by kernel_rfl) ?_;go_wp2_with fail;go_roundw
           case rel=>exact ⟨j+1,by omega,by go_num,HP2,hO2,hEq.out,hsq⟩
           case measure=>simp [intOf]<;>omega
         ·obtain rfl:q=j:=by omega
          obtain ⟨F3,hF3⟩ : ∃F3,F3=F2.set c (ZI (F2.getD c []) p q):=⟨_,rfl⟩
          have HF3:=hid hF3;have hF3l:F3.length=n:=by rw [hF3,List.length_set,hF2]
          have hR3:=hid (show QG q F3 by rw [hF3];exact KjK p q hR2.out (by omega));have hB3:BdQ (2*bnd 31 c) F3:=by rw [hF3,Hp.out];exact hI3.out.1.bd.div (Xw (by omega) c) hI3.out.2
          have h36:6*bnd 31 c+1<=bnd 31 n:=ZM 31 (show c+1<=n by omega);have h37:6*bnd 31 n<=(n+6)*bnd 31 n:=Nat.mul_le_mul_right _ (by omega);have hpos:=Xw (E:=31) (by omega) c;have hBQ:=hid (show ∀i j',NdQ (2*bnd 31 c) (qa F3 i j') from λi j'=>hB3.qa (by omega) i j');have h38:4*bnd 31 c<=100000000:=by have:=Hbd.out;omega
          rw [<-hF3] at hMj;clear hF3 hB3 h36 h37 hOj;go_wp2_with fail
          go_loopw [150] (λidx wr => ∃(i:Nat),i<=n/\idx = .int .i64 i/\Hid (FkM w4.heap.size g n q bL (Kr F3 q c c i) ad2 wr)/\Ext w4 wr/\Hid (KaN bL wr)) (λidx _=>n-(intOf idx).toNat)
          case atStart=>exact ⟨0,by omega,by go_num,hid (by rw [JT];exact hMj.out),hEj,hsj⟩
          case round =>
           clear hMj hEj hsj;obtain ⟨i,hi,rfl,hMi,hEi,hsi⟩:=hrel;generalize wr=Z at *
           by_cases him:i<n
           ·have himi:(i:Int)<(n:Int):=by omega
            have hel:i<(Kr F3 q c c i).length:=by rw [QX];omega
            obtain ⟨gi,ci,ei,z1,z2,z3,_,hgib⟩:=hMi.out.el (i:=i) hel hcq;have hcI:q<=ci:=hMi.out.room hq0 hel ei;obtain ⟨f,hf⟩ : ∃f,f=qa F3 i c:=⟨_,rfl⟩
            have hrow:=hid (Kmr (n:=q) (c:=c) (show i<F3.length by omega) (show c<F3.length by omega));have hfe:qa (Kr F3 q c c i) i c=f:=by unfold qa;rw [hrow.out.1,hf];rfl
            rw [hfe] at z2 z3;have Hf:=hid hf;have HP12:=hid (Zg Z (I f.num) (I f.den));have hb12:bL<=Z.heap.size:=hsi.out;have eA:Ext Z (Z.alloc (.cells #[I f.num,I f.den] 47)):=(Ext.refl Z).alloc _;have hszZ:w4.heap.size<=Z.heap.size:=hEi.size;clear hf hfe;go_upto_region 32 with fail;generalize Z.alloc (.cells #[I f.num,I f.den] _)=Z1 at *;obtain ⟨b12,hb12q⟩ : ∃b12,b12=Z.heap.size:=⟨_,rfl⟩
            rw [<-hb12q] at HP12 hb12 hszZ ⊢;clear hb12q;have hMi1:=hid (hMi.out.ext eA);have hEi1:=hEi.trans eA;have hsi1:=hid (hsi.out.to eA.size);obtain ⟨s0,s1,_,_⟩:=Ky HP12.out;clear z1 z2 z3 hMi hEi eA hsi
            by_cases hik:i=c
            ·have hiki:(i:Int)=(c:Int):=by omega
             have hikb:((i:Int) != (c:Int))=false:=by simp [hik]
             have Hik:=hid hik;clear hik hrow;go_wp2_with fail;go_roundw
             case rel=>exact ⟨i+1,by omega,by go_num,hid (by rw [<-XC (.inl Hik.out)];exact hMi1.out),hEi1,hsi1⟩
             case measure=>simp [intOf]<;>omega
            ·have hiki:(i:Int)≠(c:Int):=by omega
             have hikb:((i:Int) != (c:Int))=true:=by simp;omega
             have hsg:f.num.sign=0↔f=0:=by rw [Int.sign_eq_zero_iff_zero,Rat.num_eq_zero]
             obtain ⟨sg,hsq⟩ : ∃sg,sg=f.num.sign:=⟨_,rfl⟩
             have hsn:=hid (YF f);rw [<-hsq] at hsg hsn;have Hq2:=hid hsg;clear hsq hsg;go_wp2_with fail;refine (hsn.out _).mono ?_;rintro e Z2 ⟨rfl,hE6⟩;have hMi2:=hid (hMi1.out.ext hE6);have hEi2:=hEi1.trans hE6;have hsi2:=hid (hsi1.out.to hE6.size);have HP2:=hid ((HP12.out.ext hE6).mono hszZ);clear hsn hMi1 hEi1 hE6 s0 s1 HP12 hsi1
             by_cases hs0:sg=0
             ·have hz0:=hid (Hq2.out.1 hs0);subst hs0;clear Hq2;go_wp2_with fail;go_roundw
              case rel=>exact ⟨i+1,by omega,by go_num,hid (by rw [<-XC (.inr (by rw [<-Hf.out];exact hz0.out))];exact hMi2.out),hEi2,hsi2⟩
              case measure=>simp [intOf]<;>omega
             ·clear Hq2;have Hs0:=hid hs0;have hsgb:(sg != 0)=true:=by simp [hs0]
              obtain ⟨gi',ci',ei',z1,_,_,_,_⟩:=hMi2.out.el (i:=i) hel hcq;rw [ei] at ei';injection ei' with ei'
              injection ei' with q1 q2
              subst q1 q2;go_wp2_with fail
              go_loopw [173] (λidx wr => ∃(u:Nat),u<=q/\idx = .int .i64 u/\Hid (FkM w4.heap.size g n q bL ((Kr F3 q c c i).set i (Xj ((Kr F3 q c c i).getD i []) f ((Kr F3 q c c i).getD c []) u)) ad2 wr)/\Hid (Kd 47 w4.heap.size wr b12 2 [I f.num,I f.den])/\Ext w4 wr/\Hid (KaN bL wr)) (λidx _=>q-(intOf idx).toNat)
              case atStart=>exact ⟨0,by omega,by go_num,hid (by rw [KfL,KbA];exact hMi2.out),HP2,hEi2,hsi2⟩
              case round =>
               clear hMi2 HP2 hEi2 z1 Hs0 hs0 hsgb hsi2;obtain ⟨u,hu,rfl,hMu,hOu,hEu,hsu⟩:=hrel;generalize wr=V at *
               by_cases huj:u<q
               ·have huji:(u:Int)<(q:Int):=by omega
                have hFl : ∀r,i<((Kr F3 q c c i).set i r).length:=λr=>by rw [List.length_set];exact hel
                have hFk : ∀r,c<((Kr F3 q c c i).set i r).length:=λr=>by rw [List.length_set,QX];omega
                have hkE:c<(Kr F3 q c c i).length:=by rw [QX];omega
                have hRE:=Yx (n:=q) (k:=c) (c:=c) (i:=i) hR3.out;obtain ⟨gi',ci',ei',z1,z2,z3,_,_⟩:=hMu.out.el (i:=i) (hFl _) huj;rw [ei] at ei';injection ei' with ei'
                injection ei' with q1 q2
                subst q1 q2;obtain ⟨gk',ck',ek',y1,y2,y3,_,_⟩:=hMu.out.el (i:=c) (hFk _) huj;rw [ek] at ek';injection ek' with ek'
                injection ek' with q1 q2
                subst q1 q2;obtain ⟨x,hx⟩ : ∃x,x=qa (Kr F3 q c c i) i u:=⟨_,rfl⟩
                obtain ⟨y,hy⟩ : ∃y,y=qa (Kr F3 q c c i) c u:=⟨_,rfl⟩
                rw [Krc f hRE hel hkE,<-hx] at z2 z3;rw [Krd f hel hik,<-hy] at y2 y3;have hxQ:NdQ (2*bnd 31 c) x:=by rw [hx];unfold qa;rw [hrow.out.1];exact hBQ.out i u
                have hyQ:NdQ (2*bnd 31 c) y:=by rw [hy];unfold qa;rw [hrow.out.2];exact hBQ.out _ u
                have hfQ:NdQ (2*bnd 31 c) f:=by rw [Hf.out];exact hBQ.out _ _
                have hxS:=hid (hxQ.smQ (by omega));have hyS:=hid (hyQ.smQ (by omega));have hfS:=hid (hfQ.smQ (by omega));have hfyS:=hid ((hfQ.mul hyQ).smQ (by omega));obtain ⟨t0,t1,_,_⟩:=Ky hOu.out;obtain ⟨fy,hfy⟩ : ∃fy,fy=f*y:=⟨_,rfl⟩
                obtain ⟨xq,hxq⟩ : ∃xq,xq=x-fy:=⟨_,rfl⟩
                have Hxq:=hid (show xq=qa (Kr F3 q c c i) i u-f*qa (Kr F3 q c c i) c u by rw [hxq,hfy,hx,hy]);rw [<-hfy] at hfyS;have Hmu:=hid (λX (hX:Ext V X)=>KaY hfS.out hyS.out (w:=X) (HL.out.ext (hE4w.trans (hEu.trans hX))));have Hsu:=hid (λX (hX:Ext V X)=>Jq hxS.out hfyS.out (w:=X) (HL.out.ext (hE4w.trans (hEu.trans hX))));rw [<-hfy] at Hmu;rw [<-hxq] at Hsu;have Hput:=hid (λX (hX:Ext V X)=>(hMu.out.ext hX).put (hFl _) huj ei xq);have Hst:=hid (Kkb (F:=Kr F3 q c c i) (i:=i) (k:=c) (j:=u) f hRE hel huj);clear hx hy hfy hxq hRE hxQ hyQ hfQ hFl hFk;go_wp2_with fail;have dd:Ext V V.drew:=(Ext.refl V).drew;refine Z8 (S:=λW=>Ext V W) 23 24 (by kernel_rfl) (by kernel_rfl) ?_;generalize V.drew=V1 at *;refine Kc (i:=0) (v:=slv g n n) rfl (by kernel_rfl) (λ_ _ _ h=>h) (.inl ⟨by rfl,λW hW=>by go_simp⟩) dd ?_;go_simp;refine Kc (i:=1) (v := .int .i64 i) rfl (by kernel_rfl) (λ_ _ _ h=>h) (.inl ⟨by rfl,λW hW=>by go_simp⟩) dd ?_;go_simp;refine Kc (i:=2) (v := .pointer (some ⟨g,i,none⟩)) rfl (by kernel_rfl) (λ_ _ _ h=>h) (.inl ⟨by rfl,λW hW=>by go_simp⟩) dd ?_;go_simp;refine Kc (i:=3) (v:=slv gi q ci) rfl (by kernel_rfl) (λ_ _ _ h=>h) (.inl ⟨by rfl,λW hW=>by have q0:=hW.cell z1;go_simp⟩) dd ?_;go_simp;refine Kc (i:=4) (v := .int .i64 u) rfl (by kernel_rfl) (λ_ _ _ h=>h) (.inl ⟨by rfl,λW hW=>by go_simp⟩) dd ?_;go_simp
                refine Kc (i:=5) (v:=slv g n n) rfl (by kernel_rfl) (λ_ _ _ h=>h) (.inl ⟨by rfl,λW hW=>by go_simp⟩) dd ?_;go_simp;refine Kc (i:=6) (v := .int .i64 i) rfl (by kernel_rfl) (λ_ _ _ h=>h) (.inl ⟨by rfl,λW hW=>by go_simp⟩) dd ?_;go_simp;refine Kc (i:=7) (v := .pointer (some ⟨g,i,none⟩)) rfl (by kernel_rfl) (λ_ _ _ h=>h) (.inl ⟨by rfl,λW hW=>by go_simp⟩) dd ?_;go_simp;refine Kc (i:=8) (v:=slv gi q ci) rfl (by kernel_rfl) (λ_ _ _ h=>h) (.inl ⟨by rfl,λW hW=>by have q0:=hW.cell z1;go_simp⟩) dd ?_;go_simp;refine Kc (i:=9) (v := .int .i64 u) rfl (by kernel_rfl) (λ_ _ _ h=>h) (.inl ⟨by rfl,λW hW=>by go_simp⟩) dd ?_;go_simp;refine Kc (i:=10) (v := .pointer (some ⟨gi,u*2,none⟩)) rfl (by kernel_rfl) (λ_ _ _ h=>h) (.inl ⟨by rfl,λW hW=>by go_simp⟩) dd ?_;go_simp;refine Kc (i:=11) (v:=RV x) rfl (by kernel_rfl) (λ_ _ _ h=>h) (.inl ⟨by rfl,λW hW=>by have q0:=hW.cell z2;have q1:=hW.cell z3;go_simp⟩) dd ?_;go_simp;refine Kc (i:=12) (v:=RV f) rfl (by kernel_rfl) (λ_ _ _ h=>h) (.inl ⟨by rfl,λW hW=>by have q0:=hW.cell t0;have q1:=hW.cell t1;go_simp⟩) dd ?_;go_simp;refine Kc (i:=13) (v:=slv g n n) rfl (by kernel_rfl) (λ_ _ _ h=>h) (.inl ⟨by rfl,λW hW=>by go_simp⟩) dd ?_;go_simp;refine Kc (i:=14) (v := .int .i64 c) rfl (by kernel_rfl) (λ_ _ _ h=>h) (.inl ⟨by rfl,λW hW=>by go_simp⟩) dd ?_;go_simp
                refine Kc (i:=15) (v := .pointer (some ⟨g,c,none⟩)) rfl (by kernel_rfl) (λ_ _ _ h=>h) (.inl ⟨by rfl,λW hW=>by go_simp⟩) dd ?_;go_simp;refine Kc (i:=16) (v:=slv gk q ck) rfl (by kernel_rfl) (λ_ _ _ h=>h) (.inl ⟨by rfl,λW hW=>by have q0:=hW.cell y1;go_simp⟩) dd ?_;go_simp;refine Kc (i:=17) (v := .int .i64 u) rfl (by kernel_rfl) (λ_ _ _ h=>h) (.inl ⟨by rfl,λW hW=>by go_simp⟩) dd ?_;go_simp;refine Kc (i:=18) (v := .pointer (some ⟨gk,u*2,none⟩)) rfl (by kernel_rfl) (λ_ _ _ h=>h) (.inl ⟨by rfl,λW hW=>by go_simp⟩) dd ?_;go_simp;refine Kc (i:=19) (v:=RV y) rfl (by kernel_rfl) (λ_ _ _ h=>h) (.inl ⟨by rfl,λW hW=>by have q0:=hW.cell y2;have q1:=hW.cell y3;go_simp⟩) dd ?_;go_simp;refine KA (i:=20) rfl (by kernel_rfl) (λK0 hK0 => ?_);go_simp;refine (Hmu.out _ dd).mono ?_;rintro e V2 ⟨rfl,hG4⟩;have dd2:=dd.trans hG4;refine hK0 _ _ (λ_=>dd2) ?_;clear hK0;refine KA (i:=21) rfl (by kernel_rfl) (λK0 hK0 => ?_);go_simp;refine (Hsu.out _ dd2).mono ?_;rintro e V3 ⟨rfl,hG5⟩;have dd3:=dd2.trans hG5;refine hK0 _ _ (λ_=>dd3) ?_;clear hK0;refine Kc (i:=22) (v := .pointer (some ⟨gi,u*2,none⟩)) rfl (by kernel_rfl) (λ_ _ _ h=>h) (.inl ⟨by rfl,λW hW=>by go_simp⟩) dd3 ?_;go_simp;obtain ⟨f0,f1,HP,Hgr,hgB2,hgb2⟩:=Hput.out _ dd3;have hO2:=hid ((hOu.out.ext dd3).other Hgr.out (by omega));have hE2:=Kb (hEu.trans dd3) Hgr.out hgB2;have HP2:=hid HP.out
                rw [Hxq.out,Hst.out] at HP2;rw [<-Hxq.out] at HP2;have z2:=dd3.cell z2;have z3:=dd3.cell z3;have hEq:Hid (Ext w4 ((V3.setCell ⟨gi,u*2,none⟩ (I xq.num)).setCell ⟨gi,u*2+1,none⟩ (I xq.den))):=hid hE2;have hsq:=hid ((hsu.out.to dd3.size).to Hgr.out.size);clear Hput Hmu Hsu dd dd2 hG4 hG5 y1 y2 y3 z1 t0 t1 hE2 HP Hgr hEu hOu hMu hsu;refine KA (i:=23) rfl (by kernel_rfl) (λK0 hK0 => ?_);go_simp;refine hK0 _ _ (λhh=>by cases hh) ?_;clear hK0;refine QD (by kernel_rfl) ?_;go_wp2_with fail;go_roundw
                case rel=>exact ⟨u+1,by omega,by go_num,HP2,hO2,hEq.out,hsq⟩
                case measure=>simp [intOf]<;>omega
               ·obtain rfl:q=u:=by omega
                go_wp2_with fail;go_roundw
                case rel=>exact ⟨i+1,by omega,by go_num,hid (by
                 have h5:=hMu.out;rw [hrow.out.1,hrow.out.2,Hf.out,JS hik] at h5
                 exact h5),hEu,hsu⟩
                case measure=>simp [intOf]<;>omega
           ·obtain rfl:n=i:=by omega
            have hpe:Kr F3 q c c n=JF F2 q c c:=by
             unfold JF;rw [HF3.out,<-Hp.out,hF2]
            rw [hpe] at hMi;clear hpe;go_wp2_with fail;go_roundw
            case rel=>exact ⟨c+1,JF F2 q c c,ad2,by omega,by go_num,hid (hI3.out.1.piv (by omega) hcl hcq hI3.out.2 hMi.out),hEi,hsi⟩
            case measure=>simp [intOf]<;>omega
    ·obtain rfl:n=c:=by omega
     have hqn:=Hq.out
     have hCo:=hid (show CoV n M (λi=>((X.getD i 0:Int):Rat)) (λj=>qa F1 j n) from by
      have h1:=hI.out.red;have h2:=hI.out.same;rw [hqn] at h1 h2
      exact Koj HB.out.len X h1 h2)
     have hBd:=hid (show ∀i j,NdQ 10000000 (qa F1 i j) from λi j=>(hI.out.bd.qa (Xw (by omega) _) i j).mono (by
      have h1:=ZM 31 (show n<=6 by omega);have h2:bnd 31 6=1455667:=by decide
      omega))
     clear hqn;have hni:(n:Int)<(q:Int):=by omega
     go_wp2_with fail
     go_loopw [20,204] (λov idx wr => ∃i:Nat,i<=n/\idx = .int .i64 i/\Hid (SzV U2.heap.size wr ov (KcZ F1 n i))/\Ext U2 wr) (λ_ idx _=>n-(intOf idx).toNat)
     case atStart=>exact ⟨0,by omega,by go_num,hid (SzV.nil _ _),Ext.refl _⟩
     case round =>
      obtain ⟨i,hi',rfl,hO,hEo⟩:=hrel;generalize wr=Y at *
      by_cases hin:i<n
      ·have hii:(i:Int)<(n:Int):=by omega
       obtain ⟨gi,ci,ei,z1,z2,z3,_,_⟩:=(hI.out.mem.ext hEo).el (i:=i) (by omega) hq1;have hci:q<=ci:=hI.out.mem.room hq0 (i:=i) (by omega) ei;obtain ⟨r,hr⟩ : ∃r,r=qa F1 i n:=⟨_,rfl⟩
       rw [<-hr] at z2 z3;have Hsn:=hid (show KcZ F1 n i++[r]=KcZ F1 n (i+1) by rw [hr,KkW]);have Hil:=hid (KcE F1 n i);have hYs:=hEo.size;clear hr ei;go_wp2_with (at_builtin;refine KfY rfl _ _ 32 Tryz.underlying32 rfl rfl (hO.out.ext ((Ext.refl _).alloc _)) (b:=Y.heap.size) rfl (r:=r) (by go_simp) (by go_simp) (by rw [Hil.out];omega) (by simp;omega) ?_;intro gg cap2 w8 hO8 hB8 hG8;rw [Hil.out] at hO8 ⊢;rw [Hsn.out] at hO8)
       have hE8:Ext U2 w8:=Below.trans (hEo.alloc _) hB8;have HO8:=hid hO8;clear hG8 hB8 hO8;go_wp2_with fail;go_roundw
       case rel=>exact ⟨i+1,by omega,by go_num,HO8,hE8⟩
       case measure=>simp [intOf]<;>omega
      ·obtain rfl:n=i:=by omega
       have hEU:=hE4w.trans hE1;have hO2:=hid (hO.out.mono hEU.size);have hEr:=hEU.trans hEo
       have hres:=hid (show ∀ov,SzV w.heap.size Y ov (KcZ F1 n n)->KlK w n M X (.returned ov) Y from λov h=>⟨ov,KcZ F1 n n,rfl,KcE _ _ _,hCo.out.congr (λ_ _=>rfl) (λj hj=>(KkV hj).symm),λx hx=>by
        obtain ⟨t,_,rfl⟩:=List.mem_map.1 hx
        exact hBd.out t n,h,hEr⟩)
       go_wp2_with fail;go_ret;exact hres.out _ hO2.out
end
end Go.Proofs.YtdmaofimeknkbaaGreatDoor
