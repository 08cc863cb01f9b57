/- Part 49 of the proof of the claim: contracts of the functions that it reaches, and plain laws; no condition. -/
import Derived.Test.YtdmaofimeknkbaaGreatDoorQ47
import Derived.Test.YtdmaofimeknkbaaGreatDoorQ48
import Derived.Test.YtdmaofimeknkbaaGreatDoorQ45
import Derived.Test.YtdmaofimeknkbaaGreatDoorQ19
import Derived.Test.YtdmaofimeknkbaaGreatDoorQ17
set_option maxRecDepth 100000
set_option maxHeartbeats 20000000
namespace Go.Proofs.YtdmaofimeknkbaaGreatDoor
section
open Go.RowKit Go.Sort
open Lib (hid)
structure PtL (w:World) (B g c N:Nat) (vs:List Value) (L:Mx):Prop where
 own:Kd 38 B w g c (vs++List.replicate (N-vs.length) (.slice none 0 0))
 len:vs.length=L.length
 row : ∀t (_:t<L.length) (h':t<vs.length),KH (g+1) w vs[t] L[t]
theorem PtL.ext {w w':World} {B g c N:Nat} {vs:List Value} {L:Mx} (h:PtL w B g c N vs L) (he:Ext w w'):PtL w' B g c N vs L :=
 ⟨h.own.ext he,h.len,λt a b=>(h.row t a b).ext he⟩
theorem PtL.put {w:World} {B g c N:Nat} {vs:List Value} {L:Mx} {v:Value} {r:List Int} (h:PtL w B g c N vs L) (hN:vs.length<N) (hr:KH (g+1) w v r) :
  PtL (w.setCell ⟨g,vs.length,none⟩ v) B g c N (vs++[v]) (L++[r])/\w.grownBy (w.setCell ⟨g,vs.length,none⟩ v) (some g):=by
 obtain ⟨s1,g1⟩:=h.own.set vs.length v;refine ⟨⟨?_,by simp [h.len],λt h1 h2 => ?_⟩,g1⟩
 ·have e:(vs++List.replicate (N-vs.length) (Value.slice none 0 0)).set vs.length v=(vs++[v])++List.replicate (N-(vs++[v]).length) (.slice none 0 0):=by
   rw [List.set_append_right _ _ (Nat.le_refl _),Nat.sub_self,show N-vs.length=(N-(vs++[v]).length)+1 by simp;omega,List.replicate_succ,List.set_cons_zero,List.append_assoc];rfl
  rw [<-e];exact s1
 ·have hb : ∀{u:Value} {l:List Int},KH (g+1) w u l->KH (g+1) (w.setCell ⟨g,vs.length,none⟩ v) u l:=λhu=>hu.below g1 (by omega)
  rcases Nat.lt_or_ge t L.length with h3 | h3
  ·rw [List.getElem_append_left h3,List.getElem_append_left (by rw [h.len];exact h3)];exact hb (h.row t h3 (by rw [h.len];exact h3))
  ·have ht:t=L.length:=by simp at h1;omega
   subst ht;have e1:(vs++[v])[L.length]'h2=v:=by simp [<-h.len]
   have e2:(L++[r])[L.length]'h1=r:=by simp
   rw [e1,e2];exact hb hr
theorem PtL.mat {w:World} {B g c N:Nat} {vs:List Value} {L:Mx} (h:PtL w B g c N vs L) (hN:N=L.length):Qk B w (slv g N c) L:=by
 have hl:=h.len;have ho:=h.own;rw [show N-vs.length=0 by omega,List.replicate_zero,List.append_nil] at ho;refine ⟨vs,hl,?_,λt a b=>(h.row t a b).mono (by have:=ho.lt.1;omega)⟩;have h2:=ho;unfold Kd at h2;rw [hl,<-hN] at h2;rw [<-hN];exact h2
theorem PtL.start {w:World} {B g N:Nat} (h:w.ownsRow B 38 1 (slv g N N) N (madeCells (Value.slice none 0 0).cells (N*1)).toList):PtL w B g N N [] []:=by
 refine ⟨?_,rfl,λt a _=>by simp at a⟩
 have e:(madeCells (Value.slice none 0 0).cells (N*1)).toList=List.replicate N (.slice none 0 0):=by
  rw [show (Value.slice none 0 0).cells = #[.slice none 0 0] from rfl,KdY,Nat.mul_one]
 rw [e] at h;unfold Kd;simpa using h
def KlM (w:World) (n:Nat) (M:Mx) (O:List Rat) (vl:List Int) (e:Ending) (w':World):Prop :=
 ∃(v:Value) (L:Mx),e = .returned v/\L.length=(vl.getD 0 0).toNat/\KcQ n M O vl L/\Qk w.heap.size w' v L/\Ext w w'
theorem Kf5 {w:World} {n cp m cu:Nat} {sp su:Option Addr} {vo:Value} {M:Mx} {O:List Rat} {vl:List Int} (hB:BkM n M vl) (hM:KJ w (.slice su m cu) M) (hO:SzR w vo O) (hOl:O.length=M.length) (hOn : ∀x∈O,NdQ 1000 x) (hOb : ∀j,-12<=QQ O j/\QQ O j<=12) (h20:vl.getD 0 0<=20) (hL:Laid w) :
  Calls Tryz.prog 9 #[.agg #[.slice sp n cp,.slice su m cu,vo]] w (KlM w n M O vl):=by
 have hn:=hB.hn;have hn0:0<n:=by omega
 have hn3:n<=3:=by omega
 obtain ⟨i0,hi,hz0,hz1,hz2⟩:=info_parts Tryz.infoRow;have Hval:=hid (λW (hW:Ext w W)=>Kcr (w:=W) (sp:=sp) (cp:=cp) (vo:=vo) hn (hM.ext hW) hB.len hB.rect hB.bd);have Hok:=hid hB.okV;have Hvv:=hid hB.vv;have HX:=KcV w 34 (.slice sp n cp) (.slice su m cu) vo;have hE0:Ext w (w.alloc (.cells #[.slice sp n cp,.slice su m cu,vo] 34)):=(Ext.refl w).alloc _;obtain ⟨a0,a1,a2⟩:=Xk HX;have HB:=hid hB;have HM:=hid hM;have HO:=hid hO;have HOl:=hid hOl;have HOn:=hid hOn;have HOb:=hid hOb;have HL:=hid hL;have Hn:=hid hn;obtain ⟨N,hN⟩ : ∃N:Nat,N=(vl.getD 0 0).toNat:=⟨_,rfl⟩
 have HN:=hid (show vl.getD 0 0=(N:Int) by have:=hB.pos;omega);have hN20:N<=20:=by omega
 have HNt:=hid hN;clear hB hM hO hOl hOn hOb h20 hL HX hn hN
 go_enter Tryz.func9,Tryz.ntmps9
 go_upto_region 1 with fail;generalize w.alloc (.cells #[.slice sp n cp,.slice su m cu,vo] _)=W0 at *;go_wp2_with fail;refine (Hval.out _ hE0).mono ?_;rintro e W1 ⟨hcase,hE1⟩
 rcases hcase with ⟨_,vv,rfl,hvv⟩ | ⟨hno,_⟩
 rotate_left
 ·rw [Hok.out] at hno;cases hno
 rw [<-Hvv.out] at hvv;have hvlen:=HB.out.vlen;obtain ⟨sv,gv,ov,cv,rfl,hcv,hSv⟩:=hvv.row;rw [hvlen] at hcv ⊢;obtain rfl:=hSv.addr (by rw [Kq,hvlen];exact hn0);have hV1:=hid (show KT W1 (.slice (some ⟨gv,ov,none⟩) n cv) vl from by rw [<-hvlen];exact ⟨_,gv,ov,cv,rfl,by rw [hvlen];exact hcv,hSv⟩)
 have v0:W1.cell? ⟨gv,ov,none⟩=some (.int .i64 N):=by
  have h:=hSv.cell 0 (.int .i64 N) (by rw [Qg (show 0<vl.length by rw [hvlen];exact hn0),<-Ka (show 0<vl.length by rw [hvlen];exact hn0) 0,HN.out]);rwa [Nat.add_zero] at h
 have Hvlen:=hid hvlen;have E1:=hE0.trans hE1;have a0:=hE1.cell a0;have a1:=hE1.cell a1;have a2:=hE1.cell a2;have hn0i:(0:Int)<(n:Int):=by omega
 clear hvlen hSv hvv Hval Hok hE1;go_wp2_with (at_make;refine wpList_make_full _ rfl _ _ 30 rfl W1.heap.size 38 i0 (.slice none 0 0) 1 Tryz.underlying30 hi hz0 hz1 .i64 .i64 _ _ N rfl rfl (by omega) (by omega) (by rw [hz2];omega) (by unfold maxLen;omega) (Nat.le_refl _) ?_;intro w2 hown2 hgrow2)
 have hE2:Ext W1 w2:=KR hgrow2;have hP0:=hid (PtL.start hown2);obtain ⟨g,hg⟩ : ∃g,g=W1.heap.size:=⟨_,rfl⟩
 have hgB:W1.heap.size<=g:=by omega
 rw [<-hg] at hP0 ⊢;clear hown2 hgrow2 hi hz0 hz1 hz2 hg;go_wp2_with fail
 go_loopw [6] (λkv wr => ∃(k:Nat) (vs:List Value) (L:Mx),k<=N/\kv = .int .i64 k/\vs.length=k/\Hid (PtL wr g g N N vs L)/\Hid (KcQ n M O vl L)/\Ext W1 wr) (λkv _=>N-(intOf kv).toNat)
 case atStart=>exact ⟨0,[],[],by omega,by go_num,rfl,hP0,hid (λk hk=>by simp at hk),hE2⟩
 case round =>
  clear hP0 hE2;obtain ⟨k,vs,L,hk,rfl,hvs,hP,hD,hE⟩:=hrel;generalize wr=X at *;have v0:=hE.cell v0
  by_cases hkN:k<N
  ·have hki:(k:Int)<(N:Int):=by omega
   have EX:=E1.trans hE;have hst:=hid (KhY (w:=X) (k:=k) Hn.out (hV1.out.ext hE) Hvlen.out HB.out.vb HB.out.pos HB.out.gcd (by omega));go_wp2_with fail;refine hst.out.mono ?_;rintro e Y ⟨gx,cx,x,rfl,hx,hxl,hsum,hxb,hE3⟩;have EY:=EX.trans hE3;have hxl2:=hxl;have hxR:=hid (show KT Y (slv gx n cx) x from by have:=hx.rowR;rwa [hxl] at this);obtain ⟨c,hc⟩:=HB.out.ex (λi=>((x.getD i 0:Int):Rat))
   have hre:=hid (KhQ (w:=Y) (sp:=sp) (cp:=cp) HB.out (HM.out.ext EY) (HO.out.ext EY) HOl.out HOn.out HOb.out hxR.out hxl (λz hz=>by
    obtain ⟨i,hi,rfl⟩:=List.getElem_of_mem hz;have:=hxb i
    rwa [Ka hi] at this) hc (HL.out.ext EY))
   have a0:=(hE.trans hE3).cell a0;have a1:=(hE.trans hE3).cell a1;have a2:=(hE.trans hE3).cell a2;have hPY:=hid (hP.out.ext hE3);have hEY:=hE.trans hE3;have hD2:=hid (hD.out.snoc hxl hc (by rw [hsum,<-hPY.out.len,hvs]));clear hx hxl hxl2 hsum hxb hE3 hst hP hD hE;go_wp2_with fail;refine hre.out.mono ?_;rintro e Z ⟨rv,rfl,hrv,hE4⟩;obtain ⟨ra,rn,rc,rfl⟩:=hrv.slice;have hPZ:=hPY.out.ext hE4;have hgZ:g+1<=Y.heap.size:=(Kd.lt hPY.out.own).2;have hvN:vs.length<N:=by omega
   have f0:=hPZ.own.frozen k;obtain ⟨u0,k0⟩ : ∃u,Z.cell? ⟨g,k,none⟩=some u:=⟨_,hPZ.own.cell (j:=k) (by simp;omega)⟩
   obtain ⟨hP2,g2⟩:=hPZ.put (v := .slice ra rn rc) (r:=rdL n M O x c) hvN (hrv.mono hgZ);rw [hvs] at hP2 g2;have HP2:=hid hP2;have HE2:=hid (Kb (hEY.trans hE4) g2 (by omega));have hl2:(vs++[Value.slice ra rn rc]).length=k+1:=by simp [hvs]
   clear hP2 g2 hPZ hPY hre hEY hE4 hrv hc hxR;go_wp2_with fail;go_roundw
   case rel=>exact ⟨k+1,_,_,by omega,by go_num,hl2,HP2,hD2,HE2.out⟩
   case measure=>simp [intOf]<;>omega
  ·obtain rfl:N=k:=by omega
   have hLl:N=L.length:=by rw [<-hP.out.len,hvs]
   have hres:=hid (show KlM w n M O vl (.returned (slv g N N)) X from ⟨_,L,rfl,by rw [<-hLl,HNt.out],hD.out,(hP.out.mat hLl).mono (by have:=E1.size;omega),E1.trans hE⟩);clear hLl hvs hP hD;go_wp2_with fail;go_ret;exact hres.out
theorem Kei {w:World} {va vb:Value} {A B:Mx} (hA:KJ w va A) (hB:KJ w vb B) (hbig:A.length<=1000000) (hbr : ∀r∈A,r.length<=1000000) :
  Calls Tryz.prog 10 #[va,vb] w λe w'=>e = .returned (.bool (decide (A=B)))/\Ext w w':=by
 obtain ⟨sa,ga,oa,ca,va',rfl,hca,hvA,hSa,hrA⟩:=hA;obtain ⟨sb,gb,ob,cb,vb',rfl,hcb,hvB,hSb,hrB⟩:=hB
 by_cases hl:A.length=B.length
 ·obtain ⟨n,hn⟩ : ∃n,n=A.length:=⟨_,rfl⟩
  rw [<-hl];rw [<-hn] at hbig hca ⊢;rw [<-hl,<-hn] at hcb;have HA:=hid hSa;have HB:=hid hSb;have HvA:=hid hvA;have HvB:=hid hvB;have HrA:=hid hrA;have HrB:=hid hrB;have Hn:=hid hn;have Hm:=hid (hn.trans hl);have Hbr:=hid hbr;clear hSa hSb hl hn hvA hvB hrA hrB hbr
  go_enter Tryz.func10,Tryz.ntmps10
  go_wp2_with fail
  go_loopw [5] (λidx wr => ∃i:Nat,i<=n/\idx = .int .i64 i/\Hid (∀j,j<i->A.getD j []=B.getD j [])/\Ext w wr) (λidx _=>n-(intOf idx).toNat)
  case atStart=>exact ⟨0,by omega,by go_num,hid (λj h=>by omega),Ext.refl _⟩
  case round =>
   obtain ⟨i,hi,rfl,Hz,hE⟩:=hrel;generalize wr=X at *
   by_cases hlt:i<n
   ·have hii:(i:Int)<(n:Int):=by omega
    have hiA:i<A.length:=by rw [<-Hn.out];exact hlt
    have hiB:i<B.length:=by rw [<-Hm.out];exact hlt
    obtain ⟨sx,bx,ox,cx,hrx,hcx,hSx⟩:=KJ.row HA.out HvA.out HrA.out hiA;obtain ⟨sy,by',oy,cy,hry,hcy,hSy⟩:=KJ.row HB.out HvB.out HrB.out hiB;obtain rfl:=HA.out.addr (by rw [HvA.out];omega);obtain rfl:=HB.out.addr (by rw [HvB.out];omega);have k1:=hE.cell hrx;have k2:=hE.cell hry;have hx1:KT X (.slice sx A[i].length cx) A[i]:=⟨sx,bx,ox,cx,rfl,hcx,hSx.ext hE⟩
    have hy1:KT X (.slice sy B[i].length cy) B[i]:=⟨sy,by',oy,cy,rfl,hcy,hSy.ext hE⟩
    obtain ⟨lx,hlx⟩ : ∃l,l=A[i].length:=⟨_,rfl⟩
    obtain ⟨ly,hly⟩ : ∃l,l=B[i].length:=⟨_,rfl⟩
    rw [<-hlx] at k1 hx1;rw [<-hly] at k2 hy1;clear hlx hly;have hEQ:=hid (λW (hW:Ext X W)=>Kdn (hx1.ext hW) (hy1.ext hW) (Hbr.out _ (List.getElem_mem hiA)));have HxA:=hid (show A.getD i []=A[i] from Ka hiA []);have HxB:=hid (show B.getD i []=B[i] from Ka hiB []);obtain ⟨q,hq⟩ : ∃q,q=decide (A[i]=B[i]):=⟨_,rfl⟩
    rw [<-hq] at hEQ;have Hq:=hid hq;clear hrx hry hcx hcy hSx hSy hq hx1 hy1;go_wp2_with fail;have d0:Ext X X.drew:=(Ext.refl X).drew;refine Ke (S:=λW=>Ext X W) 9 (by kernel_rfl) (by simp) ?_;intro inv;generalize X.drew=Xd at *;refine tkS (i:=0) (v := .slice (some ⟨ga,oa,none⟩) n ca) rfl d0 inv ?_;intro inv;go_simp;refine tkS (i:=1) (v := .int .i64 i) rfl d0 inv ?_;intro inv;go_simp;refine tkS (i:=2) (v := .pointer (some ⟨ga,oa+i,none⟩)) rfl d0 inv ?_;intro inv;go_simp;refine tkA (i:=3) (v := .slice sx lx cx) rfl (.inl ⟨by rfl,λW hW=>by have y0:=hW.cell k1;go_simp⟩) d0 inv ?_;intro inv;go_simp;refine tkS (i:=4) (v := .slice (some ⟨gb,ob,none⟩) n cb) rfl d0 inv ?_;intro inv;go_simp;refine tkS (i:=5) (v := .int .i64 i) rfl d0 inv ?_;intro inv;go_simp;refine tkS (i:=6) (v := .pointer (some ⟨gb,ob+i,none⟩)) rfl d0 inv ?_;intro inv;go_simp;refine tkA (i:=7) (v := .slice sy ly cy) rfl (.inl ⟨by rfl,λW hW=>by have y0:=hW.cell k2;go_simp⟩) d0 inv ?_;intro inv;go_simp;refine Kf (i:=8) rfl (by kernel_rfl) inv (λinv K0 hK0 => ?_);go_simp;refine (hEQ.out _ d0).mono ?_;rintro e V3 ⟨rfl,hGc⟩;have d1:=d0.trans hGc;refine hK0 _ _ d1 ?_;clear hK0 hGc;refine Ki (by kernel_rfl) ?_;have hE2:=hE.trans d1
    cases q
    ·have Hne:=hid (show decide (A=B)=false from decide_eq_false (λe=>by
      have:=Hq.out.symm;rw [decide_eq_false_iff_not] at this
      exact this (by rw [<-HxA.out,<-HxB.out,e])))
     clear Hq HxA HxB k1 k2 hEQ d1;go_wp2_with fail;go_ret;exact ⟨by rw [Hne.out];rfl,hE2⟩
    ·have Hok:=hid (show A.getD i []=B.getD i [] by rw [HxA.out,HxB.out];exact of_decide_eq_true Hq.out.symm)
     have Hz2:=hid (show ∀j,j<i+1->A.getD j []=B.getD j [] from λj hj=>by
      by_cases e:j=i
      ·subst e;exact Hok.out
      ·exact Hz.out j (by omega))
     clear Hq HxA HxB k1 k2 hEQ d1;go_wp2_with fail;go_roundw
     case rel=>exact ⟨i+1,by omega,by go_num,Hz2,hE2⟩
     case measure=>simp [intOf]<;>omega
   ·have hin:i=n:=by omega
    have Heq:=hid (show decide (A=B)=true from decide_eq_true (Kbn (Hn.out.symm.trans Hm.out) (λj hj=>Hz.out j (by have:=Hn.out;omega))));clear Hz;go_wp2_with fail;go_ret;exact ⟨by rw [Heq.out];rfl,hE⟩
 ·have hne:decide (A=B)=false:=decide_eq_false (λe=>hl (by rw [e]));have hli : ¬((A.length:Int)=(B.length:Int)):=by omega
  obtain ⟨n,hn⟩ : ∃n,n=A.length:=⟨_,rfl⟩
  obtain ⟨m,hm⟩ : ∃m,m=B.length:=⟨_,rfl⟩
  rw [<-hn,<-hm] at hl hli ⊢;have Hne:=hid hne;have hlb:((n:Int)==(m:Int))=false:=beq_eq_false_iff_ne.2 hli;clear hne hn hm hSa hSb hrA hrB hvA hvB hca hcb
  go_enter Tryz.func10,Tryz.ntmps10
  go_wp2_with fail;go_ret;exact ⟨by rw [Hne.out];rfl,Ext.refl _⟩
end
end Go.Proofs.YtdmaofimeknkbaaGreatDoor
