/- Part 24 of the proof of the claim: contracts of the functions that it reaches, and plain laws; no condition. -/
import Derived.Test.YtdmaofimeknkbaaGreatDoorQ23
import Derived.Test.YtdmaofimeknkbaaGreatDoorQ20
import Derived.Test.YtdmaofimeknkbaaGreatDoorQ12
import Derived.Test.YtdmaofimeknkbaaGreatDoorQ22
import Derived.Test.YtdmaofimeknkbaaGreatDoorQ21
set_option maxRecDepth 100000
set_option maxHeartbeats 20000000
namespace Go.Proofs.YtdmaofimeknkbaaGreatDoor
section
open Go.RowKit Go.Sort
open Lib (hid)
theorem GrX.put {B:Nat} {w w6:World} {g cap i gx cx:Nat} {F:Mx} {ad:List (Nat×Nat)} {r:List Int} {R:Nat->Prop} (h:GrX B w (slv g F.length cap) F ad) (hi:i<F.length) (hr0:0<r.length) (hO:Kd 45 B w6 gx cx (ss r)) (hC:Chg R w w6) (hRg : ¬R g)
  (hR : ∀j (_:j<ad.length) (h:j<F.length),0<F[j].length->j≠i -> ¬R ad[j].1) (hne : ∀j (_:j<ad.length) (h:j<F.length),0<F[j].length->j≠i->ad[j].1≠gx) :
  GrX B (w6.setCell ⟨g,i,none⟩ (slv gx r.length cx)) (slv g F.length cap) (F.set i r) (ad.set i (gx,cx))/\w6.grownBy (w6.setCell ⟨g,i,none⟩ (slv gx r.length cx)) (some g):=by
 have hi':i<ad.length:=by rw [h.len];exact hi
 have h1:=(hC.own hRg h.outer).set i (slv gx r.length cx);have hOg:=K7 (hC.own hRg h.outer) hO;refine ⟨⟨by simp [h.len],?_,λj hj hj' hj0 => ?_,λj k hj hk hj2 hk2 hj0 hk0 hjk => ?_⟩,h1.2⟩
 ·have:=h1.1;unfold Kd at this;rw [show slv gx r.length cx=xv r.length (gx,cx).1 (gx,cx).2 from (Qo hr0 _ _).symm,<-YA,K5 _ _ (by simp [h.len]),List.length_set] at this;rw [List.length_set,show slv gx r.length cx=xv r.length (gx,cx).1 (gx,cx).2 from (Qo hr0 _ _).symm];exact this
 ·rw [List.length_set] at hj hj'
  by_cases hij:i=j
  ·subst hij;simp only [List.getElem_set_self];exact hO.other h1.2 hOg
  ·simp only [List.getElem_set_ne hij] at hj0 ⊢;have hOj:=h.row j hj hj' hj0;exact (hC.own (hR j hj' hj hj0 (Ne.symm hij)) hOj).other h1.2 (K7 h.outer hOj)
 ·rw [List.length_set] at hj hk hj2 hk2
  by_cases hij:i=j
  ·subst hij;simp only [List.getElem_set_ne hjk] at hk0;simp only [List.getElem_set_self,List.getElem_set_ne hjk];exact Ne.symm (hne k hk hk2 hk0 (Ne.symm hjk))
  ·simp only [List.getElem_set_ne hij] at hj0 ⊢
   by_cases hik:i=k
   ·subst hik;simp only [List.getElem_set_self];exact hne j hj hj2 hj0 hjk
   ·simp only [List.getElem_set_ne hik] at hk0 ⊢;exact h.dis j k hj hk hj2 hk2 hj0 hk0 hjk
theorem GrX.hd {B:Nat} {w:World} {g cap i:Nat} {F:Mx} {ad:List (Nat×Nat)} (h:GrX B w (slv g F.length cap) F ad) (hi:i<F.length) :
  ∃gx cx,ad[i]? = some (gx,cx)/\w.cell? ⟨g,i,none⟩=some (xv (F.getD i []).length gx cx)/\KW B w (xv (F.getD i []).length gx cx) (F.getD i [])/\(0<(F.getD i []).length->gx≠g):=by
 have hi':i<ad.length:=by rw [h.len];exact hi
 have hg:=XT ad F i hi' hi;obtain ⟨hlt,he⟩:=List.getElem?_eq_some_iff.1 hg;refine ⟨ad[i].1,ad[i].2,by rw [List.getElem?_eq_getElem hi'],?_,?_,λh0 => ?_⟩
 ·rw [h.outer.cell (j:=i) hlt,he,Ka hi]
 ·rw [Ka hi]
  rcases Nat.eq_zero_or_pos F[i].length with e | e
  ·have:F[i]=[]:=List.eq_nil_of_length_eq_zero e;rw [this];exact KW.nil _ _
  ·rw [Qo e];exact (h.row i hi hi' e).ints
 ·rw [Ka hi] at h0;exact K7 h.outer (h.row i hi hi' h0)
def Q8 (i:Nat) (M:Mx):Mx:=M.mapIdx λj r=>if j<i then r++KO M.length j else r
@[simp] theorem ZQ (i:Nat) (M:Mx):(Q8 i M).length=M.length:=by simp [Q8]
theorem Yq {i:Nat} {M:Mx} {j:Nat} (h:j<M.length):(Q8 i M)[j]'(by simpa using h)=if j<i then M[j]++KO M.length j else M[j]:=by simp [Q8]
theorem Kih (M:Mx):Q8 0 M=M:=List.ext_getElem (by simp) λj h1 h2=>by rw [Yq h2,if_neg (by omega)]
theorem Kjm (M:Mx):Q8 M.length M=KY M:=List.ext_getElem (by simp) λj h1 h2=>by
 have hj:j<M.length:=by simpa using h1
 rw [Yq hj,if_pos hj,Yc hj]
theorem Kig {i:Nat} {M:Mx} (h:i<M.length):Q8 (i+1) M=(Q8 i M).set i (M[i]++KO M.length i):=by
 refine List.ext_getElem (by simp) λj h1 h2 => ?_
 have hj:j<M.length:=by simpa using h1
 rw [Yq hj]
 by_cases e:i=j
 ·subst e;rw [List.getElem_set_self,if_pos (by omega)]
 ·rw [List.getElem_set_ne e,Yq hj]
  by_cases h2:j<i
  ·rw [if_pos h2,if_pos (by omega)]
  ·rw [if_neg h2,if_neg (by omega)]
theorem KfP {i:Nat} {M:Mx} (h:i<M.length):(Q8 i M).getD i []=M[i]:=by
 rw [Ka (by simpa using h),Yq h,if_neg (by omega)]
theorem KfI (a b:List Int):ss (a++b)=ss a++ss b:=by simp [ss]
theorem Gr.gridTake {B:Nat} {w:World} {g cap N n d:Nat} {ad:List (Nat×Nat)} {ls:List Ln} (h:Gr B w g cap N n ad ls) (hn:0<n) (hd:d<=N) (hcap:d<=cap):XK w (slv g d cap) (Za d ls):=by
 have hl:(Za d ls).length=d:=XS (by rw [h.len];exact hd);have hO:=h.grl.outer;have hal:ad.length=N:=by rw [h.grl.len,Kj,h.len]
 refine ⟨_,g,0,cap,(hdV ad (KQ ls)).take d,by rw [hl],by rw [hl];exact hcap,by rw [hl,List.length_take,K5 _ _ h.grl.len,Kj,h.len];omega,hO.sl.take d,λi hi hi' => ?_⟩;rw [hl] at hi;have hir:i<(KQ ls).length:=by rw [Kj,h.len];omega
 have hg:=XT ad (KQ ls) i (by omega) hir;obtain ⟨_,he⟩:=List.getElem?_eq_some_iff.1 hg;rw [List.getElem_take,he];have hrl:(KQ ls)[i].length=n:=h.rect _ (List.getElem_mem hir);have hrow:=h.gr.row i hir (by omega) (by omega)
 have hf:(Za d ls)[i]'(by rw [hl];exact hi)=(KQ ls)[i]:=by
  rw [KbX hi (by rw [h.len];exact hd),<-Qs,Ka hir]
 rw [hf,Qo (by omega)];exact hrow.intsR rfl
def KlT (w:World) (M:Mx) (c:Nat) (e:Ending) (w':World):Prop :=
 ∃g cap H,e = .returned (.tuple #[slv g H.length cap,.int .i64 c])/\Zs (c+M.length) (KY M) H/\H.length<=M.length/\XK w' (slv g H.length cap) H/\(∀r∈H,∀z∈r,z.natAbs<2^bC M.length 30 (c+M.length))/\Ext w w'
theorem Kii {M:Mx} (h : ∀r∈M,∀z∈r,-1000000000<=z/\z<=1000000000):Yr 30 (ln1 (KY M)):=by
 intro i hi;have hi':i<M.length:=by simpa using hi
 rw [Ka hi];have e:(ln1 (KY M))[i]=((KY M)[i]'(by simpa using hi'),[]):=by simp [ln1]
 rw [e,Yc hi'];constructor
 ·intro z hz;show z.natAbs<2^30;have e:(2:Nat)^30=1073741824:=by decide
  rw [e]
  rcases List.mem_append.1 hz with hz | hz
  ·have:=h _ (List.getElem_mem hi') z hz;omega
  ·unfold KO at hz
   rcases List.mem_or_eq_of_mem_set hz with hz | hz
   ·have:=(List.mem_replicate.1 hz).2;omega
   ·omega
 ·intro z hz;cases hz
theorem KnV {w:World} {v:Value} {M:Mx} {c:Nat} (hM:KJ w v M) (hR:Ku c M) (h0:0<M.length) (hl:M.length<=1000) (hc:c<=1000) (hent : ∀r∈M,∀z∈r,-1000000000<=z/\z<=1000000000)
  (hk:2*(2*bC M.length 30 (c+M.length)+2)+2<LIM) (hL:Laid w):Calls Tryz.prog 63 #[v] w (KlT w M c):=by
 obtain ⟨sa,gb,go,cp,vs,hv,hcp,hvl,hS,hr⟩:=id hM;obtain ⟨sr,br,or,cr,hrow,_,_⟩:=KJ.row hS hvl hr h0;have hrc:M[0].length=c:=hR _ (List.getElem_mem h0);rw [hrc,Nat.add_zero] at hrow;have hbig:=hid (Kek (w:=w) hM (by omega) (λr hr=>by rw [hR r hr];omega) (λr hr z hz=>by have:=hent r hr z hz;unfold I64;omega) hL);obtain ⟨s0,hs,hy0,hy1,hy2⟩:=info_parts Tryz.infoStr;subst hv;obtain rfl:=hS.addr (by omega);have HR:=hid hR;have Hent:=hid hent;have HK:=hid hk;have HL:=hid hL;obtain ⟨N,hN⟩ : ∃N,N=M.length:=⟨_,rfl⟩
 have hun:=hid (λW=>Kcm (w:=W) (n:=N) (by omega));have HN:=hid hN;have hN0:(N==0)=false:=beq_eq_false_iff_ne.2 (by omega);have hN1:((N:Int)==0)=false:=beq_eq_false_iff_ne.2 (by omega);have hN2:0<N:=by omega
 have hN3:N<=1000:=by omega
 rw [<-hN] at hbig ⊢;clear hM hR hent hk hL hvl hS hr hrc hN
 go_enter Tryz.func63,Tryz.ntmps63
 go_wp2_with fail;refine hbig.out.mono ?_;rintro e w1 ⟨v1,ad1,rfl,hG1,hE1⟩;go_wp2_with fail;refine (hun.out w1).mono ?_;rintro e w2 ⟨v2,ad2,rfl,hG2,hE2⟩;obtain ⟨ga1,cap1,rfl,hcap1,hs1⟩:=hG1.shape;obtain ⟨g1,rfl⟩:=hs1 (by rw [<-HN.out];exact hN2);obtain ⟨ga2,cap2,rfl,hcap2,hs2⟩:=hG2.shape;obtain ⟨g2,rfl⟩:=hs2 (by rw [QA];exact hN2);rw [<-HN.out] at hcap1 ⊢;rw [QA] at hcap2 ⊢;have HG1:=hid hG1;have HG2:=hid hG2;have hb1:=hG1.outer.lt;have hb2:=hG2.outer.lt;have hsz1:=hE1.size;have hsz2:=hE2.size;have hE12:=hE1.trans hE2;clear hG1 hG2 hbig hun;go_wp2_with fail
 go_loopw [21] (λidx wr => ∃(i:Nat) (ad3:List (Nat×Nat)),i<=N/\idx = .int .i64 i/\Hid (GrX w.heap.size wr (slv g1 (Q8 i M).length cap1) (Q8 i M) ad3)/\Hid (∀j,i<=j->ad3[j]? = ad1[j]?)/\Hid (Chg (λk=>w.heap.size<=k/\k<w1.heap.size) w2 wr)) (λidx _=>N-(intOf idx).toNat)
 case atStart=>exact ⟨0,ad1,by omega,by go_num,hid (by rw [Kih];exact HG1.out.ext hE2),hid (λj _=>rfl),hid (Chg.refl _ _)⟩
 case round =>
  obtain ⟨i,ad3,hi,rfl,hG,ha,hC⟩:=hrel;generalize wr=X at *;have hEX:Ext w X:=hC.out.ext hE12 (λk hk=>hk.1)
  by_cases hlt:i<N
  ·have hii:(i:Int)<(N:Int):=by omega
   have hiM:i<M.length:=by rw [<-HN.out];exact hlt
   obtain ⟨gx,cx,ead,c1,hI,hgx⟩:=hG.out.hd (i:=i) (by rw [ZQ];exact hiM);rw [KfP hiM] at c1 hI hgx;obtain ⟨gu,cu,eadu,cu1,hIu,hgu⟩:=HG2.out.hd (i:=i) (by rw [QA];exact hlt);have hur:(Q7 N).getD i []=KO N i:=by rw [Ka (by simpa using hlt),Kco]
   have hul:(KO N i).length=N:=by simp [KO]
   rw [hur,hul,Qo hN2] at cu1 hIu
   have hou:Kd 45 w1.heap.size w2 gu cu (ss (KO N i)):=by
    unfold KW at hIu;unfold Kd;rw [Kx,hul];rw [hul] at hIu;exact hIu
   have hgul:=hou.lt;have hcu:=hC.out.cell (by omega) cu1;have hou2:=hid (hC.out.own (by omega) hou);obtain ⟨r,hr⟩ : ∃r,r=M[i]:=⟨_,rfl⟩
   have hrl:r.length=c:=by rw [hr];exact HR.out _ (List.getElem_mem hiM)
   have Hstep:=hid (Kig hiM);rw [<-hr] at c1 hI hgx Hstep;rw [<-HN.out] at Hstep
   have hgx1:0<r.length->w.heap.size<=gx/\gx<w1.heap.size:=λh=>by
    have h2:=HG1.out.hd (i:=i) hiM;obtain ⟨gy,cy,eady,_,hIy,_⟩:=h2;have:=ha.out i (Nat.le_refl _);rw [ead,eady] at this;injection this with this
    injection this with e1 e2
    rw [<-e1] at hIy;rw [Ka hiM,<-hr,Qo h] at hIy;exact World.ownsRow.lt hIy gx rfl
   obtain ⟨xa,xl,xk,hxv⟩:=KeO r.length gx cx
   have hob : ∀q,(xv r.length gx cx).ownBlock=some q->w.heap.size<=q/\q<w1.heap.size:=λq hq=>by
    rw [Kjo] at hq;split at hq
    ·cases hq
    ·injection hq with hq;subst hq;exact hgx1 (by omega)
   have Hob:=hid hob;have HI:=hid hI;have Hrl:=hid hrl;have fz:=hG.out.outer.frozen i;have Hgx:=hid hgx;have Ead:=hid ead;have Hxv:=hid hxv;rw [hxv] at c1;have hXw:=hEX.size;have hX2:=hC.out.size;clear hr hrl hI hgx eadu hIu hgu hur hul hou cu1 hob hgx1 ead hxv
   have HNews:=hid (show ∀(j:Nat) (u:Value),(ss (KO N i))[j]? = some u->X.drew.cell? ((⟨gu,0,none⟩:Addr).add j)=some u from λj u hj=>by
    have h2:=hou2.out.sl.cell j u hj
    simpa [Addr.add_lit] using h2)
   have HOne:=hid (show ∀u∈ss (KO N i),u.oneCell'=true from λu hu=>by
    obtain ⟨y,_,rfl⟩:=List.mem_map.1 hu
    rfl)
   have HTo:=hid (show some g1≠(xv r.length gx cx).ownBlock by
    rw [Kjo];split
    ·simp
    ·intro e;injection e with e;exact Hgx.out (by omega) e.symm)
   have Hgl:=hid (show g1<X.heap.size by omega);have Hrn:=hid (show r.length+N<=2000 by rw [Hrl.out];omega);have Hun:=hid (show (ss (KO N i)).length=N*1 by rw [Kx];simp [KO]);have hcap1':(i:Int)<(cap1:Int):=by omega
   go_wp2_with fail
   go_region_law (refine step_append_lies _ (by rfl) _ _ _ (by rfl) w.heap.size 45 s0 _ 1 16 Tryz.underlying108 hs hy0 hy1 hy2 rfl (by omega) (xv r.length gx cx) r.length (ss r) (by rw [Hxv.out];rfl) (KU HI.out ((Ext.refl _).drew)) ⟨gu,0,none⟩ N cu (ss (KO N i)) (by rfl) Hun.out HNews.out HOne.out hN2 (by have:=Hrn.out;unfold maxLen;omega) (by have:=Hrn.out;omega) hXw X.heap.size (by simp) ?_;intro gg cap6 w6 hown6 hgrow6 hat6 hlt6;have t6:=hgrow6.cell (((Ext.refl X).drew).cell c1) HTo.out;have f6:w6.frozen? ⟨g1,i,none⟩=false:=(hgrow6.frozen_far ⟨g1,i,none⟩ Hgl.out HTo.out).trans fz)
   all_goals
    have hrn:(r++KO N i).length=r.length+N:=by rw [List.length_append];simp [KO]
    have hO6:Kd 45 w.heap.size w6 gg cap6 (ss (r++KO N i)):=by
     unfold Kd;rw [KfI,List.length_append,Kx,Kx,show (KO N i).length=N by simp [KO]];exact hown6
    have hC6:Chg (λk=>(xv r.length gx cx).ownBlock=some k) X w6:=by
     have h1:=Chg.of_ext (R:=λk=>(xv r.length gx cx).ownBlock=some k) ((Ext.refl X).drew);refine h1.trans ⟨hgrow6.os,hgrow6.tape,hgrow6.output,hgrow6.size,λk hk hn=>hgrow6.block k hk (λe=>hn e.symm)⟩
    have hal:ad3.length=(Q8 i M).length:=hG.out.len
    have hgi : ∀j (hj:j<ad3.length) (h:j<(Q8 i M).length),0<(Q8 i M)[j].length->j≠i->(xv r.length gx cx).ownBlock≠some ad3[j].1/\ad3[j].1≠gg:=λj hj h hj0 hji=>by
     have h1:(xv r.length gx cx).ownBlock≠some ad3[j].1:=by
      rw [Kjo];split
      ·simp
      ·intro e;injection e with e
       have hia:i<ad3.length:=by rw [hal,ZQ];exact hiM
       have hiw:i<(Q8 i M).length:=by rw [ZQ];exact hiM
       have ei:=Ead.out;rw [List.getElem?_eq_getElem hia] at ei;have ei2:=Option.some.inj ei
       have hl0:0<(Q8 i M)[i].length:=by
        have:=KfP hiM;rw [Ka hiw] at this;have h5:M[i].length=c:=HR.out _ (List.getElem_mem hiM);rw [this,h5,<-Hrl.out];omega
       have:=hG.out.dis j i hj hia h hiw hj0 hl0 hji;rw [ei2] at this;exact this e.symm
     refine ⟨h1,λe => ?_⟩
     rcases hat6 with h2 | h2
     ·rw [e] at h1;exact h1 h2
     ·have:=(hG.out.lt j hj h hj0).2;omega
    have hput:=hG.out.put (i:=i) (r:=r++KO N i) (by rw [ZQ];exact hiM) (by omega) hO6 hC6 (λe=>HTo.out e.symm) (λj hj h hj0 hji=>(hgi j hj h hj0 hji).1) (λj hj h hj0 hji=>(hgi j hj h hj0 hji).2);rw [hrn] at hput
    have hCn:Chg (λk=>w.heap.size<=k/\k<w1.heap.size) w2 (w6.setCell ⟨g1,i,none⟩ (slv gg (r.length+N) cap6)) :=
     (hC.out.trans (hC6.mono (λk _ hk=>Hob.out k hk))).trans (Chg.of_grown hput.2 ⟨hb1.1,hb1.2⟩)
    have hG7:=hid (show GrX w.heap.size (w6.setCell ⟨g1,i,none⟩ (slv gg (r.length+N) cap6)) (slv g1 (Q8 (i+1) M).length cap1) (Q8 (i+1) M) (ad3.set i (gg,cap6)) by
     rw [Hstep.out,List.length_set];exact hput.1)
    have hC7:=hid hCn;generalize hw7:World.setCell w6 _ _=w7 at *;clear hw7 hown6 hgrow6 hat6 t6 f6 hlt6 hrn hO6 hC6 hal hgi hput hCn;go_wp2_with fail;go_roundw
    case rel=>exact ⟨i+1,_,by omega,by go_num,hG7,hid (λj hj=>by rw [List.getElem?_set_ne (by omega)];exact ha.out j (by omega)),hC7⟩
    case measure=>simp [intOf]<;>omega
  ·have hie:i=N:=by omega
   have hii : ¬(i:Int)<(N:Int):=by omega
   have hG5:=hG.out;have hwl:(Q8 i M).length=N:=by rw [ZQ,HN.out]
   rw [hwl] at hG5;rw [show Q8 i M=KQ (ln1 (KY M)) by rw [hie,HN.out,Kjm,Kcd]] at hG5;have hGr:Gr w.heap.size X g1 cap1 N (c+N) ad3 (ln1 (KY M)):=⟨hG5,by rw [KdU,Kgw,HN.out],Kdc (by have:=KeN HR.out;rw [<-HN.out] at this;exact this)⟩
   have hkN:=HK.out;rw [<-HN.out] at hkN;have hher:=hid (KeU hGr hN2 (by omega) (by omega) (by omega) hcap1 (Kii Hent.out) hkN HL.out hEX);have hcN:((c+N:Nat):Int)=(c:Int)+(N:Int):=by omega
   rw [hcN] at hher;clear hG5 hGr hkN hwl hcN hie;go_wp2_with fail;refine hher.out.mono ?_;rintro e X2 ⟨d,ps,ad4,ls4,rfl,hdN,hG8,hF,hO,hA,hE8⟩
   have Hres:=hid (show KlT w M c (.returned (.tuple #[slv g1 d cap1,.int .i64 c])) X2 by
    have hl:(Za d ls4).length=d:=XS (by rw [hG8.len];exact hdN);have hfo:=Kbg (M:=KY M) (n:=c+N) (by have:=KeN HR.out;rw [<-HN.out] at this;exact this) hO hF;rw [HN.out] at hfo;refine ⟨g1,cap1,Za d ls4,by rw [hl],hfo,by rw [hl,<-HN.out];exact hdN,by rw [hl];exact hG8.gridTake (by omega) hdN (by omega),λr hr z hz => ?_,hE8⟩;obtain ⟨t,ht,rfl⟩:=List.getElem_of_mem hr;rw [hl] at ht;rw [KbX ht (by rw [hG8.len];exact hdN)] at hz;have:=(hA t (by rw [hG8.len];omega)).1 z hz
    rw [<-HN.out];exact this)
   clear hher hG8 hF hO hA;go_wp2_with fail;go_ret2;exact Hres.out
def RdO (B:Nat) (w0 w:World) (v:Value) (F:Mx):Prop := ∃vs,vs.length=F.length/\w.ownsRow B 108 1 v F.length vs /\ ∀t (_:t<F.length) (h':t<vs.length),Z0 w0 vs[t] F[t]
theorem RdO.nil (B:Nat) (w0 w:World):RdO B w0 w (.slice none 0 0) []:=⟨[],rfl,⟨rfl,.inl ⟨rfl,rfl⟩⟩,λt h=>by simp at h⟩
theorem RdO.ext {B:Nat} {w0 w w':World} {v:Value} {F:Mx} (h:RdO B w0 w v F) (he:Ext w w'):RdO B w0 w' v F:=by
 obtain ⟨vs,h1,h2,h3⟩:=h;exact ⟨vs,h1,KU h2 he,h3⟩
theorem RdO.grid {B:Nat} {w0 w:World} {v:Value} {F:Mx} (h:RdO B w0 w v F) (he:Ext w0 w):XK w v F:=by
 obtain ⟨vs,h1,h2,h3⟩:=h
 rcases h2.2 with ⟨rfl,h0⟩ | ⟨g,cap,cur,rfl,hb,hg,hn,hm,hs,ht⟩
 ·have hF:F=[]:=List.eq_nil_of_length_eq_zero h0;subst hF;exact ⟨none,0,0,0,[],rfl,Nat.le_refl _,rfl,Sl.nil _ _ _ _,λi h=>by simp at h⟩
 ·have hO:Kd 108 B w g cap vs:=by unfold Kd;rw [h1];exact h2
  exact ⟨_,g,0,cap,vs,rfl,hn,h1,hO.sl,λi a b=>(h3 i a b).ext he⟩
section
variable {w:World} {ops:Array Oper} {rest:List Oper} {o:Oper} {a:Act} {Q:Exit->Act->World->Prop}
theorem KlX (hgd:o.guard=none) (s x:Operand) (ho:o.op = .call { callee := .builtin .append,args := #[s,x],argTypes := #[110,110] })
  {B:Nat} {w0:World} {v rv:Value} {F:Mx} {r:List Int} (hs:a.eval s=v) (hown:RdO B w0 w v F) {b:Nat} (hx:a.eval x = .slice (some ⟨b,0,none⟩) 1 1) (hc:w.cell? ⟨b,0,none⟩=some rv) (hr:Z0 w0 rv r) (hl:F.length<=1000000000) (hB:B<=w.heap.size)
  (h : ∀g cap w',RdO B w0 w' (slv g (F.length+1) cap) (F++[r])->Below B w w'->w.grownBy w' v.ownBlock->wpList Tryz.prog ops Q rest (a.put o.dst (slv g (F.length+1) cap)) w'):wpList Tryz.prog ops Q (o::rest) a w:=by
 obtain ⟨i0,hi,hz0,hz1,hz2⟩:=info_parts Tryz.infoInts;obtain ⟨vs,h1,h2,h3⟩:=hown;refine wpList_append_lies w hgd s x 110 ho B 108 i0 _ 1 24 Tryz.underlying110 hi hz0 hz1 hz2 rfl (by omega) v F.length vs hs h2 ⟨b,0,none⟩ 1 1 [rv] hx rfl ?_ ?_ (by omega) (by unfold maxLen;omega) (by omega) hB w.heap.size rfl ?_
 ·intro j u hj;have:j=0:=by have:=(List.getElem?_eq_some_iff.1 hj).1;simp at this;omega
  subst this;simp only [List.getElem?_cons_zero,Option.some.injEq] at hj;subst hj;simpa [Addr.add_lit] using hc
 ·intro u hu;simp only [List.mem_cons,List.not_mem_nil,or_false] at hu;subst hu;obtain ⟨sa,gb,go,cap,rfl,_⟩:=hr;rfl
 ·intro g cap w' k1 k2 k3 k4;refine h g cap w' ⟨vs++[rv],by simp [h1],?_,λt ht ht' => ?_⟩ (Below.grown (Below.refl _ _) k2 hB (λq hq=>(World.ownsRow.lt h2 q hq).1)) k2
  ·rw [List.length_append];exact k1
  ·rcases Nat.lt_or_ge t F.length with hlt | hge
   ·simp only [List.getElem_append_left hlt,List.getElem_append_left (show t<vs.length by omega)];exact h3 t hlt (by omega)
   ·have hte:t=F.length:=by simp at ht;omega
    subst hte;simp only [List.getElem_append_right (Nat.le_refl F.length),List.getElem_append_right (show vs.length<=F.length by omega),h1,Nat.sub_self,List.getElem_cons_zero];exact hr
end
theorem Sl.drop {w:World} {gb go c:Nat} {ga ga':Option Addr} {xs:List Value} (h:Sl w ga gb go xs) (ha:ga'=some ⟨gb,go+c,none⟩):Sl w ga' gb (go+c) (xs.drop c) :=
 ⟨λ_=>ha,λi x hx=>by
  rw [List.getElem?_drop] at hx;have:=h.cell (c+i) x hx
  rwa [<-Nat.add_assoc] at this⟩
theorem Kgp (l:List Int) (c:Nat):(ss l).drop c=ss (l.drop c):=by simp [ss,List.map_drop]
theorem Kho {c i:Nat} {H:Mx} (h:i<H.length):krn c (H.take (i+1))=if pv H[i]<c then krn c (H.take i) else krn c (H.take i)++[H[i].drop c]:=by
 unfold krn low;rw [Zh h,List.filter_append]
 by_cases hp:pv H[i]<c
 ·rw [if_pos hp,List.filter_cons_of_neg (by simp [hp])];simp
 ·rw [if_neg hp,List.filter_cons_of_pos (by simp [hp])];simp
theorem Kge (c i:Nat) (H:Mx):(krn c (H.take i)).length<=i:=by
 unfold krn low;rw [List.length_map];exact Nat.le_trans (List.length_filter_le _ _) (by simp;omega)
theorem KiK {w:World} {v:Value} {H:Mx} {c m:Nat} (hH:XK w v H) (hR:Ku (c+m) H) (hm:0<m) (hl:H.length<=1000000) (hn:c+m<=1000000) :
  Calls Tryz.prog 69 #[v,.int .i64 c] w λe w' => ∃v',e = .returned v'/\XK w' v' (krn c H)/\Ext w w':=by
 obtain ⟨sa,gb,go,cap,vs,rfl,hcap,hvl,hS,hr⟩:=hH;have HS:=hid hS;have HV:=hid hvl;have HR:=hid hr;have HRt:=hid hR;clear hS hvl hr hR
 go_enter Tryz.func69,Tryz.ntmps69
 go_wp2_with fail
 go_loopw [5,10] (λout idx wr => ∃i:Nat,i<=H.length/\idx = .int .i64 i/\Hid (RdO w.heap.size w wr out (krn c (H.take i)))/\Ext w wr) (λ_ idx _=>H.length-(intOf idx).toNat)
 case atStart=>exact ⟨0,by omega,by go_num,hid (RdO.nil _ _ _),Ext.refl _⟩
 case round =>
  obtain ⟨i,hi',rfl,hV,hE⟩:=hrel;generalize wr=X at *
  by_cases hlt:i<H.length
  ·have hii:(i:Int)<(H.length:Int):=by omega
   obtain rfl:=HS.out.addr (by rw [HV.out];omega);obtain ⟨sr,br,or,cr,hrow,hrc,hSr⟩:=XK.row HS.out HV.out HR.out hlt;have hrl:H[i].length=c+m:=HRt.out _ (List.getElem_mem hlt);have hstep:=Kho (c:=c) hlt;obtain ⟨r,hr⟩ : ∃r,r=H[i]:=⟨_,rfl⟩
   rw [<-hr] at hrow hrc hSr hrl hstep;rw [hrl] at hrow hrc;have hrow':=hE.cell hrow;obtain rfl:=hSr.addr (by simp;omega);have HSr:=hid hSr;have hld:=hid (KaC (w:=X) (cap:=cr) (hSr.ext hE) (by omega));rw [hrl] at hld;have hcr:(c:Int)<=((c+m:Nat):Int):=by omega
   have hcr2:(c:Int)<=(cr:Int):=by omega
   have Hrl:=hid hrl;have Hkl:=hid (Kge c i H);have hcast:((c+m:Nat):Int)=(c:Int)+(m:Int):=by omega
   have Hrc:=hid hrc;have hcrne : ¬cr=c:=by omega
   have hcr3 : ¬(cr-c=0):=by omega
   clear hr hrow hrc hSr hrl;obtain ⟨p,hp⟩ : ∃p,p=pv r:=⟨_,rfl⟩
   rw [<-hp] at hstep hld
   by_cases hpc:p<c
   ·have hpi : ¬(c:Int)<=(p:Int):=by omega
    rw [if_pos hpc] at hstep;have Hstep:=hid hstep;clear hstep hp hpc;go_wp2_with fail;refine hld.out.mono ?_;rintro e W ⟨rfl,hW⟩;go_wp2_with fail;go_roundw
    case rel=>exact ⟨i+1,by omega,by go_num,hid (by rw [Hstep.out];exact hV.out.ext hW),hE.trans hW⟩
    case measure=>simp [intOf]<;>omega
   ·have hpi:(c:Int)<=(p:Int):=by omega
    rw [if_neg hpc] at hstep;have Hstep:=hid hstep
    have Hrd:=hid (show Z0 w (.slice (some ⟨br,or+c,none⟩) m (cr-c)) (r.drop c) by
     have hdl:(r.drop c).length=m:=by rw [List.length_drop,Hrl.out];omega
     refine ⟨_,br,or+c,cr-c,by rw [hdl],by rw [hdl];have:=Hrc.out;omega,?_⟩
     rw [<-Kgp];exact HSr.out.drop rfl)
    clear hstep hp hpc;have hXw:=hE.size;go_wp2_with fail;refine hld.out.mono ?_;rintro e W ⟨rfl,hW⟩;have hWX:=hW.size;go_wp2_with (at_builtin;refine KlX rfl _ _ rfl (B:=w.heap.size) (w0:=w) rfl ((hV.out.ext hW).ext ((Ext.refl _).alloc _)) rfl (b:=W.heap.size) (rv := .slice (some ⟨br,or+c,none⟩) m (cr-c)) (r:=r.drop c) (by go_simp<;>omega) Hrd.out (by have:=Hkl.out;omega) (by simp;omega) ?_;intro gg cap2 w8 hO8 hB8 hG8;rw [<-Hstep.out] at hO8)
    have hE8:Ext w w8:=Below.trans ((hE.trans hW).alloc _) hB8;have HO8:=hid hO8;clear hG8 hB8 hO8;go_wp2_with fail;go_roundw
    case rel=>exact ⟨i+1,by omega,by go_num,hid (by
     have h1:=HO8.out;rw [Hstep.out] at h1 ⊢
     simpa using h1),hE8⟩
    case measure=>simp [intOf]<;>omega
  ·have hie:i=H.length:=by omega
   subst hie;go_wp2_with fail;go_ret;have h1:=hV.out;rw [List.take_length] at h1;exact ⟨_,rfl,h1.grid hE,hE⟩
theorem KaF.row {w:World} {sa:Option Addr} {gb go:Nat} {vs:List Value} {M:Mx} (hS:Sl w sa gb go vs) (hl:vs.length=M.length) (hr : ∀i (h:i<M.length) (h':i<vs.length),Z0 w vs[i] M[i]) {i:Nat} (hi:i<M.length) :
  ∃sr br or cr,w.cell? ⟨gb,go+i,none⟩=some (.slice sr M[i].length cr)/\M[i].length<=cr/\Sl w sr br or (ss M[i]):=by
 obtain ⟨sr,br,or,cr,e,h1,h2⟩:=hr i hi (by omega);exact ⟨sr,br,or,cr,by rw [<-e];exact hS.cell i _ (List.getElem?_eq_getElem (by omega)),h1,h2⟩
theorem Kfl {w:World} {n:Nat}:Calls Tryz.prog 57 #[.slice none 0 0,.int .i64 n] w λe w'=>e = .returned (.slice none 0 0)/\Ext w w':=by
 go_enter Tryz.func57,Tryz.ntmps57
 go_wp2_with fail
 go_loopw [5,6] (λdn idx wr=>dn = .int .i64 0/\idx = .int .i64 0/\Ext w wr) (λ_ _ _=>0)
 case atStart=>exact ⟨by go_num,by go_num,Ext.refl _⟩
 case round =>
  obtain ⟨rfl,rfl,hE⟩:=hrel
  by_cases hn:(0:Int)<(n:Int)
  ·go_wp2_with fail;go_ret;exact ⟨rfl,hE⟩
  ·go_wp2_with fail;go_ret;exact ⟨rfl,hE⟩
theorem KdS {w:World} {n g cap:Nat}:Calls Tryz.prog 57 #[slv g 0 cap,.int .i64 n] w λe w'=>e = .returned (slv g 0 cap)/\Ext w w':=by
 go_enter Tryz.func57,Tryz.ntmps57
 go_wp2_with fail
 go_loopw [5,6] (λdn idx wr=>dn = .int .i64 0/\idx = .int .i64 0/\Ext w wr) (λ_ _ _=>0)
 case atStart=>exact ⟨by go_num,by go_num,Ext.refl _⟩
 case round =>
  obtain ⟨rfl,rfl,hE⟩:=hrel;have hc:(0:Int)<=(cap:Int):=by omega
  by_cases hn:(0:Int)<(n:Int)
  ·go_wp2_with fail;go_ret;exact ⟨rfl,hE⟩
  ·go_wp2_with fail;go_ret;exact ⟨rfl,hE⟩
def LdO (B:Nat) (w0 w:World) (v:Value) (F:Mx):Prop := ∃vs,vs.length=F.length/\w.ownsRow B 152 1 v F.length vs /\ ∀t (_:t<F.length) (h':t<vs.length),Z0 w0 vs[t] F[t]
theorem LdO.nil (B:Nat) (w0 w:World):LdO B w0 w (.slice none 0 0) []:=⟨[],rfl,⟨rfl,.inl ⟨rfl,rfl⟩⟩,λt h=>by simp at h⟩
theorem LdO.ext {B:Nat} {w0 w w':World} {v:Value} {F:Mx} (h:LdO B w0 w v F) (he:Ext w w'):LdO B w0 w' v F:=by
 obtain ⟨vs,h1,h2,h3⟩:=h;exact ⟨vs,h1,KU h2 he,h3⟩
section
variable {w:World} {ops:Array Oper} {rest:List Oper} {o:Oper} {a:Act} {Q:Exit->Act->World->Prop}
theorem KpF (hgd:o.guard=none) (s x:Operand) (ho:o.op = .call { callee := .builtin .append,args := #[s,x],argTypes := #[118,118] })
  {B:Nat} {w0:World} {v rv:Value} {F:Mx} {r:List Int} (hs:a.eval s=v) (hown:LdO B w0 w v F) {b:Nat} (hx:a.eval x = .slice (some ⟨b,0,none⟩) 1 1) (hc:w.cell? ⟨b,0,none⟩=some rv) (hr:Z0 w0 rv r) (hl:F.length<=1000000000) (hB:B<=w.heap.size)
  (h : ∀g cap w',LdO B w0 w' (slv g (F.length+1) cap) (F++[r])->Below B w w'->w.grownBy w' v.ownBlock->wpList Tryz.prog ops Q rest (a.put o.dst (slv g (F.length+1) cap)) w'):wpList Tryz.prog ops Q (o::rest) a w:=by
 obtain ⟨i0,hi,hz0,hz1,hz2⟩:=info_parts Tryz.infoLong;obtain ⟨vs,h1,h2,h3⟩:=hown;refine wpList_append_lies w hgd s x 118 ho B 152 i0 _ 1 24 Tryz.underlying118 hi hz0 hz1 hz2 rfl (by omega) v F.length vs hs h2 ⟨b,0,none⟩ 1 1 [rv] hx rfl ?_ ?_ (by omega) (by unfold maxLen;omega) (by omega) hB w.heap.size rfl ?_
 ·intro j u hj;have:j=0:=by have:=(List.getElem?_eq_some_iff.1 hj).1;simp at this;omega
  subst this;simp only [List.getElem?_cons_zero,Option.some.injEq] at hj;subst hj;simpa [Addr.add_lit] using hc
 ·intro u hu;simp only [List.mem_cons,List.not_mem_nil,or_false] at hu;subst hu;obtain ⟨sa,gb,go,cap,rfl,_⟩:=hr;rfl
 ·intro g cap w' k1 k2 k3 k4;refine h g cap w' ⟨vs++[rv],by simp [h1],?_,λt ht ht' => ?_⟩ (Below.grown (Below.refl _ _) k2 hB (λq hq=>(World.ownsRow.lt h2 q hq).1)) k2
  ·rw [List.length_append];exact k1
  ·rcases Nat.lt_or_ge t F.length with hlt | hge
   ·simp only [List.getElem_append_left hlt,List.getElem_append_left (show t<vs.length by omega)];exact h3 t hlt (by omega)
   ·have hte:t=F.length:=by simp at ht;omega
    subst hte;simp only [List.getElem_append_right (Nat.le_refl F.length),List.getElem_append_right (show vs.length<=F.length by omega),h1,Nat.sub_self,List.getElem_cons_zero];exact hr
end
theorem Kio {w:World} {v:Value} {H:Mx} {c m:Nat} {ps:List Nat} (hH:KaF w v H) (hR:Ku (c+m) H) (hp : ∀r∈H,pvI r=(pv r:Nat)) (hK:IsH m ps (krn c H)) (hb : ∀i j,nd (eM (krn c H) i j)<LIM) (hm:0<m) (hl:H.length<=1000000) (hn:c+m<=1000000) (hL:Laid w) :
  Calls Tryz.prog 104 #[v,.int .i64 c,.int .i64 m] w λe w' => ∃v',e = .returned v'/\KaF w' v' (krn c H)/\Ext w w':=by
 obtain ⟨sa,gb,go,cap,vs,rfl,hcap,hvl,hS,hr⟩:=hH;have HS:=hid hS;have HV:=hid hvl;have HR:=hid hr;have HRt:=hid hR;have Hpp:=hid hp;have HK:=hid hK;have HB:=hid hb;have HL:=hid hL;clear hS hvl hr hR hp hK hb hL
 go_enter Tryz.func104,Tryz.ntmps104
 go_wp2_with fail
 go_loopw [7,12] (λout idx wr => ∃i:Nat,i<=H.length/\idx = .int .i64 i/\Hid (LdO w.heap.size w wr out (krn c (H.take i)))/\Ext w wr) (λ_ idx _=>H.length-(intOf idx).toNat)
 case atStart=>exact ⟨0,by omega,by go_num,hid (LdO.nil _ _ _),Ext.refl _⟩
 case round =>
  obtain ⟨i,hi',rfl,hV,hE⟩:=hrel;generalize wr=X at *
  by_cases hlt:i<H.length
  ·have hii:(i:Int)<(H.length:Int):=by omega
   obtain rfl:=HS.out.addr (by rw [HV.out];omega);obtain ⟨sr,br,or,cr,hrow,hrc,hSr⟩:=KaF.row HS.out HV.out HR.out hlt;have hrl:H[i].length=c+m:=HRt.out _ (List.getElem_mem hlt);have hstep:=Kho (c:=c) hlt;obtain ⟨r,hr⟩ : ∃r,r=H[i]:=⟨_,rfl⟩
   rw [<-hr] at hrow hrc hSr hrl hstep;rw [hrl] at hrow hrc;have hrow':=hE.cell hrow;obtain rfl:=hSr.addr (by simp;omega);have HSr:=hid hSr;have hld:=hid (Kk0 (w:=X) (cap:=cr) (hSr.ext hE) (by omega));rw [hrl,show pvI r=(pv r:Nat) by rw [hr];exact Hpp.out _ (List.getElem_mem hlt)] at hld;have hcr:(c:Int)<=((c+m:Nat):Int):=by omega
   have hcr2:(c:Int)<=(cr:Int):=by omega
   have Hrl:=hid hrl;have Hkl:=hid (Kge c i H);have hcast:((c+m:Nat):Int)=(c:Int)+(m:Int):=by omega
   have Hrc:=hid hrc;have hcrne : ¬cr=c:=by omega
   have hcr3 : ¬(cr-c=0):=by omega
   clear hr hrow hrc hSr hrl;obtain ⟨p,hp⟩ : ∃p,p=pv r:=⟨_,rfl⟩
   rw [<-hp] at hstep hld
   by_cases hpc:p<c
   ·have hpi : ¬(c:Int)<=(p:Int):=by omega
    rw [if_pos hpc] at hstep;have Hstep:=hid hstep;clear hstep hp hpc;go_wp2_with fail;refine hld.out.mono ?_;rintro e W ⟨rfl,hW⟩;go_wp2_with fail;go_roundw
    case rel=>exact ⟨i+1,by omega,by go_num,hid (by rw [Hstep.out];exact hV.out.ext hW),hE.trans hW⟩
    case measure=>simp [intOf]<;>omega
   ·have hpi:(c:Int)<=(p:Int):=by omega
    rw [if_neg hpc] at hstep;have Hstep:=hid hstep
    have Hrd:=hid (show Z0 w (.slice (some ⟨br,or+c,none⟩) m (cr-c)) (r.drop c) by
     have hdl:(r.drop c).length=m:=by rw [List.length_drop,Hrl.out];omega
     refine ⟨_,br,or+c,cr-c,by rw [hdl],by rw [hdl];have:=Hrc.out;omega,?_⟩
     rw [<-Kgp];exact HSr.out.drop rfl)
    clear hstep hp hpc;have hXw:=hE.size;go_wp2_with fail;refine hld.out.mono ?_;rintro e W ⟨rfl,hW⟩;have hWX:=hW.size;go_wp2_with (at_builtin;refine KpF rfl _ _ rfl (B:=w.heap.size) (w0:=w) rfl ((hV.out.ext hW).ext ((Ext.refl _).alloc _)) rfl (b:=W.heap.size) (rv := .slice (some ⟨br,or+c,none⟩) m (cr-c)) (r:=r.drop c) (by go_simp<;>omega) Hrd.out (by have:=Hkl.out;omega) (by simp;omega) ?_;intro gg cap2 w8 hO8 hB8 hG8;rw [<-Hstep.out] at hO8)
    have hE8:Ext w w8:=Below.trans ((hE.trans hW).alloc _) hB8;have HO8:=hid hO8;clear hG8 hB8 hO8;go_wp2_with fail;go_roundw
    case rel=>exact ⟨i+1,by omega,by go_num,hid (by
     have h1:=HO8.out;rw [Hstep.out] at h1 ⊢
     simpa using h1),hE8⟩
    case measure=>simp [intOf]<;>omega
  ·have hie:i=H.length:=by omega
   subst hie;have h1:=hV.out;rw [List.take_length] at h1
   rcases Nat.eq_zero_or_pos (krn c H).length with hz | hz
   ·have hnil:krn c H=[]:=List.eq_nil_of_length_eq_zero hz;have hv : ∃v0,v0=Value.slice none 0 0:=⟨_,rfl⟩
    obtain ⟨vs0,e1,e2,e3⟩:=h1;rw [hnil] at e2
    rcases e2.2 with ⟨rfl,_⟩ | ⟨g,cap,cur,rfl,hb1,hg1,hn1,hm1,hs1,ht1⟩
    ·have HN:=hid hnil;clear hv e1 e2 e3 hz hnil;go_wp2_with fail;refine (Kfl).mono ?_;rintro e W ⟨rfl,hW⟩;have hEE:=hE.trans hW;go_wp2_with fail;go_ret;exact ⟨_,rfl,by rw [HN.out];exact ⟨none,0,0,0,[],rfl,Nat.le_refl _,rfl,Sl.nil _ _ _ _,λi h=>by simp at h⟩,hEE⟩
    ·have HN:=hid hnil;clear hv e1 e2 e3 hz hnil;go_wp2_with fail;refine (KdS).mono ?_;rintro e W ⟨rfl,hW⟩;have hEE:=hE.trans hW;go_wp2_with fail;go_ret;exact ⟨_,rfl,by rw [HN.out];exact ⟨_,g,0,cap,[],rfl,Nat.zero_le _,rfl,⟨λh=>by simp at h,λi x h=>by simp at h⟩,λi h=>by simp at h⟩,hEE⟩
   ·obtain ⟨vs0,e1,e2,e3⟩:=h1
    rcases e2.2 with ⟨_,h0⟩ | ⟨g,cap,cur,rfl,hb1,hg1,hn1,hm1,hs1,ht1⟩
    ·omega
    ·have hO:Kd 152 w.heap.size X g cap vs0:=by unfold Kd;rw [e1];exact e2
     have E3:=hid e3;have E1:=hid e1;have hkl:=Kge c H.length H;rw [List.take_length] at hkl;obtain ⟨L,hLd⟩ : ∃L,L=(krn c H).length:=⟨_,rfl⟩
     have hfm:=hid (KkY (w0:=w) (w:=X) (L:=L) HK.out hLd (by omega) (by omega) (by omega) (by rw [hLd];exact hn1) hO (by rw [hLd];exact e1) (λi a b=>E3.out i a b) HB.out HL.out hE);have HLd:=hid hLd;have hcap:L<=cap:=by rw [hLd];exact hn1
     rw [<-hLd];clear hO e1 e2 e3 hz hb1 hg1 hn1 hm1 hs1 ht1 hkl hLd;go_wp2_with fail;refine hfm.out.mono ?_;rintro e W ⟨rfl,hO2,hE2⟩;have HO2:=hid hO2;clear hO2 hfm;go_wp2_with fail;go_ret;exact ⟨_,rfl,⟨_,g,0,cap,vs0,by rw [<-HLd.out];rfl,by rw [<-HLd.out];exact hcap,E1.out,HO2.out.sl,λi a b=>(E3.out i a b).ext hE2⟩,hE2⟩
end
section
open Hnf (V Ko Ech Red)
def Jg (n:Nat) (x y:V):Int:=KD (λi=>x i*y i) n
theorem Kog (n:Nat) (x z y:V) (q:Int):Jg n (Hnf.sub x q z) y=Jg n x y-q*Jg n z y:=by
 unfold Jg;rw [<-KbD,<-KbE];exact QM λi _=>by simp only [Hnf.sub];grind
theorem Kmn (n:Nat) (y:V):Jg n (λ_=>0) y=0:=Yb λi _=>by simp
theorem KhU {n:Nat} {L:List V} {y:V} (h : ∀v∈L,Jg n v y=0) {v:V} (hv:Ko L v):Jg n v y=0 :=
 Khr (f:=λv=>Jg n v y) (Kmn n y) (λv q u=>Kog n v u y q) h hv
def KaO (n:Nat) (L:List V) (K:Mx):Prop:=(∃qs,IsH n qs K) /\ ∀y:V,Ko (KF K) y↔(∀v∈L,Jg n v y=0) /\ ∀i,n<=i->y i=0
theorem KaO.unique {n:Nat} {L L':List V} {K K':Mx} (h:KaO n L K) (h':KaO n L' K') (hl : ∀y,(∀v∈L,Jg n v y=0) ↔ ∀v∈L',Jg n v y=0):K=K':=by
 obtain ⟨⟨qs,hK⟩,h1⟩:=h;obtain ⟨⟨qs',hK'⟩,h2⟩:=h';exact (IsH.unique hK hK' (λv hv=>(h2 v).2 (by have:=(h1 v).1 (.mem hv);exact ⟨(hl v).1 this.1,this.2⟩)) (λv hv=>(h1 v).2 (by have:=(h2 v).1 (.mem hv);exact ⟨(hl v).2 this.1,this.2⟩))).1
section
variable {n C:Nat} {L:List V} {ps:List Nat} {F:Mx} {d:Int} {w:Nat->V}
end
theorem KpS {F:Mx} {C:Nat} (h : ∀i,i<F.length -> ∀j,(eM F i j).natAbs<=C) : ∀r∈F,∀z∈r,z.natAbs<=C:=λr hr z hz=>by
 obtain ⟨i,hi,rfl⟩:=List.getElem_of_mem hr;obtain ⟨j,hj,rfl⟩:=List.getElem_of_mem hz;have:=h i hi j;unfold eM at this;rwa [Ka hi,Ka hj] at this
def trM (n:Nat) (M:Mx):Mx:=(List.range n).map λc=>M.map λr=>r.getD c 0
@[simp] theorem Ka2 (n:Nat) (M:Mx):(trM n M).length=n:=by simp [trM]
theorem Kh8 (n:Nat) (M:Mx):Ku M.length (trM n M):=λr hr=>by
 obtain ⟨c,_,rfl⟩:=List.mem_map.1 hr;simp
theorem Kkj {n:Nat} (M:Mx) {c:Nat} (h:c<n):(trM n M)[c]'(by simpa using h)=M.map λr=>r.getD c 0:=by simp [trM]
theorem Kqy {n:Nat} (M:Mx) {c j:Nat} (h:c<n) (hj:j<M.length):eM (trM n M) c j=vr M[j] c:=by
 have e:(trM n M).getD c []=M.map λr=>r.getD c 0:=by rw [Ka (by simpa using h)];exact Kkj M h
 unfold eM;rw [e,Ka (by simpa using hj)];simp [vr]
theorem Kmd {n:Nat} (M:Mx) (y:V) {j:Nat} (hj:j<M.length):cmb (trM n M) y j=Jg n (vr M[j]) y:=by
 unfold cmb Jg;rw [Ka2];exact QM λi hi=>by rw [Kqy M hi hj];exact Int.mul_comm _ _
theorem Khl {n:Nat} {M H:Mx} (hH:Zs (M.length+n) (KY (trM n M)) H):KaO n (KF M) (krn M.length H):=by
 have h:=Kbk (c:=M.length) (M:=trM n M) (Kh8 n M) (by rw [Ka2];exact hH);obtain ⟨qs,h1,h2⟩:=h;rw [Ka2] at h1 h2;refine ⟨⟨qs,h1⟩,λy=>(h2 y).trans ⟨λh=>⟨λv hv => ?_,h.2⟩,λh=>⟨λj hj => ?_,h.2⟩⟩⟩
 ·obtain ⟨r,hr,rfl⟩:=List.mem_map.1 hv;obtain ⟨j,hj,rfl⟩:=List.getElem_of_mem hr;rw [<-Kmd M y hj];exact h.1 j hj
 ·rw [Kmd M y hj];exact h.1 _ (List.mem_map.2 ⟨M[j],List.getElem_mem hj,rfl⟩)
theorem KaO.of_form {n:Nat} {M F K:Mx} (hF:Zs n M F) (hK:KaO n (KF F) K):KaO n (KF M) K :=
 ⟨hK.1,λy=>(hK.2 y).trans ⟨λh=>⟨λv hv=>KhU h.1 (hF.2.2 v hv),h.2⟩,λh=>⟨λv hv=>KhU h.1 (hF.2.1 v hv),h.2⟩⟩⟩
end
end Go.Proofs.YtdmaofimeknkbaaGreatDoor
