/- Part 34 of the proof of the claim: contracts of the functions that it reaches, and plain laws; no condition. -/
import Derived.Test.YtdmaofimeknkbaaGreatDoorQ22
import Derived.Test.YtdmaofimeknkbaaGreatDoorQ33
import Derived.Deep.RegionHeld3
import Derived.Deep.CutRange
import Derived.Test.YtdmaofimeknkbaaGreatDoorQ12
import Derived.Test.YtdmaofimeknkbaaGreatDoorQ13
set_option maxRecDepth 100000
set_option maxHeartbeats 20000000
namespace Go.Proofs.YtdmaofimeknkbaaGreatDoor
section
open Go.RowKit Go.Sort
open Lib (hid)
theorem KnQ {c i:Nat} {H:Mx} (h:i<H.length):upr c (H.take (i+1))=if pv H[i]<c then upr c (H.take i)++[H[i]] else upr c (H.take i):=by
 unfold upr;rw [Zh h,List.filter_append]
 by_cases hp:pv H[i]<c
 ·rw [if_pos hp,List.filter_cons_of_pos (by simp [hp])];simp
 ·rw [if_neg hp,List.filter_cons_of_neg (by simp [hp])];simp
theorem Kkk (c:Nat) (H:Mx):(upr c H).length<=H.length:=List.length_filter_le _ _
theorem KmV (c:Nat) (H:Mx):(krn c H).length<=H.length:=by unfold krn low;rw [List.length_map];exact List.length_filter_le _ _
theorem KiX {l:List Int} {c:Nat} (hc:c<=l.length):pv l<c ↔ ¬Y8 (l.take c):=by
 constructor
 ·intro h hz;have:=Kdk.1 hz (pv l);rw [KbK,if_pos h] at this;exact Kfs (by omega) this
 ·intro h;refine Classical.byContradiction λhc2=>h (Kdk.2 λj => ?_)
  rw [KbK]
  by_cases hj:j<c
  ·rw [if_pos hj];exact Kbs (by omega)
  ·rw [if_neg hj]
def Kc3 (w:World) (M:Mx) (c:Nat) (b:List Int) (e:Ending) (w':World):Prop :=
 ∃H,Zs (c+M.length) (KY M) H/\Ext w w' /\
  ((¬Y8 ((Ys c H M.length b).take c)/\e = .returned (.tuple #[.slice none 0 0,.bool false,.int .i64 0]))
   \/ (Y8 ((Ys c H M.length b).take c)/\QK (XX c H M.length b)=true /\ ∃v,e = .returned (.tuple #[v,.bool true,.int .i64 0])/\KH w.heap.size w' v (XX c H M.length b))
   \/ (Y8 ((Ys c H M.length b).take c)/\QK (XX c H M.length b)=false/\e = .returned (.tuple #[.slice none 0 0,.bool false,.int .i64 4])))
theorem KqL {X W:World} {T:TypeId} {o:Obj} {v:Value} (h:Ext (((X.alloc (.cells #[v] T)).alloc o).drew) W):W.cell? ⟨X.heap.size,0,none⟩=some v/\X.heap.size<W.heap.size :=
 ⟨h.cell (by go_simp),by have:=h.size;simp at this;omega⟩
theorem KqM {X W:World} {T:TypeId} {o:Obj} {v:Value} (h:Ext (((X.alloc o).alloc (.cells #[v] T)).drew) W):W.cell? ⟨X.heap.size+1,0,none⟩=some v/\X.heap.size+1<W.heap.size :=
 ⟨h.cell (by go_simp),by have:=h.size;simp at this;omega⟩
theorem Kkr {w : World} {vm vb : Value} {M : Mx} {b : List Int} {c E : Nat} (hM : KJ w vm M) (hb : KT w vb b) (hs0 : XL M b = 0) (h0 : 0 < M.length) (hc : c = KX M) (hEe : E = bC M.length 30 (c + M.length))
    (hE:2*((E+(E+1)*M.length)+((E+(E+1)*M.length)+1)*M.length)+6<LIM) (hL:Laid w) :
    Calls Tryz.prog 34 #[vm,vb] w (Kc3 w M c b):=by
  obtain ⟨hck,hrk,hbl⟩:=Kny hs0;obtain ⟨hl12,hn12,hRt,hent⟩:=Kal hck;obtain ⟨hb64,hbent⟩:=Kkz hrk;have hbc:b.length=c:=by rw [hc];exact hbl h0
  rw [<-hc] at hn12 hRt;have hsz:=hid (Klp hM hb);rw [hs0] at hsz;obtain ⟨N,hN⟩ : ∃N,N=M.length:=⟨_,rfl⟩
  have hwd:=hid (λW (hW:Ext w W)=>KnV (hM.ext hW) hRt h0 (by omega) (by omega) hent (by rw [<-hEe];have:(E+1)*M.length>=(E+1)*1:=Nat.mul_le_mul_left _ h0;omega) (hL.ext hW))
  have hbig:=hid (λW (bx:Nat) (sb:Option Addr) (bb ob cb:Nat) (hW:Ext w W) (hS:Sl w sb bb ob (is b)) (hcb:b.length<=cb) (hbx:W.cell? ⟨bx,0,none⟩=some (.slice sb b.length cb)) =>
    Kek (w:=W) (v := .slice (some ⟨bx,0,none⟩) 1 1) (M:=[b]) ⟨_,bx,0,1,[.slice sb b.length cb],rfl,Nat.le_refl _,rfl,⟨λ_=>rfl,λi x hx=>by
      have:i=0:=by have:=(List.getElem?_eq_some_iff.1 hx).1;simp at this;omega
      subst this;simp only [List.getElem?_cons_zero,Option.some.injEq] at hx
      rw [<-hx];exact hbx⟩,λi a bb'=>by
      have:i=0:=by simp at a;omega
      subst this
      exact ⟨sb,bb,ob,cb,rfl,hcb,hS.ext hW⟩⟩ (by simp) (λr hr=>by simp at hr;subst hr;omega) (λr hr z hz=>by simp at hr;subst hr;have:=hbent z hz;unfold I64;omega) (hL.ext hW))
  obtain ⟨sb,bb,ob,cb,rfl,hcb,hSb⟩:=hb;obtain ⟨sa,gb,go,cap,vs,rfl,hcap,hvl,hS,hr⟩:=hM;obtain rfl:=hS.addr (by omega);have hrep:=hid (λW (bx:Nat) (hW:W.cell? ⟨bx,0,none⟩=some (I 0))=>Kef (m:=N) (by omega) (b:=bx) (o:=0) (c:=1) (z:=0) (w:=W) hW);obtain ⟨s0,hs,hy0,hy1,hy2⟩:=info_parts Tryz.infoStr;have HSb:=hid hSb;have HRt:=hid hRt;have Hent:=hid hent;have Hbent:=hid hbent;have HE:=hid hE;have HEe:=hid hEe;have HL:=hid hL;have HN:=hid hN;have Hbc:=hid hbc;have hN2:0<N:=by omega
  have hN12:N<=12:=by omega
  have hN0:(N==0)=false:=beq_eq_false_iff_ne.2 (by omega);have hN1:((N:Int)==0)=false:=beq_eq_false_iff_ne.2 (by omega);have hz1:I 0 = .string ⟨#[48]⟩:=by unfold I S;rw [Kav]
  have Hz1:=hid hz1;rw [<-hN] at hsz hwd h0 hcap hl12 ⊢;rw [hbc] at hsz hcb hbig ⊢;clear hs0 hck hrk hbl hRt hent hbent hSb hE hEe hL hN hbc hS hvl hr hc hz1
  go_enter Tryz.func34,Tryz.ntmps34
  go_wp2_with fail;refine hsz.out.mono ?_;rintro e w1 ⟨rfl,hE1⟩;go_wp2_with fail;refine (hwd.out _ hE1).mono ?_;rintro e w2 ⟨g,cp,H,rfl,hH,hHl,hG,hHb,hE2⟩;rw [<-HN.out] at hHl;have hE12:=hE1.trans hE2;have HH:=hid hH;have HG:=hid hG;have HHb:=hid hHb;clear hsz hwd hH hG hHb;go_upto_region 7 with fail
  go_cut [10] from 32 to 42 (λlv wx => ∃gl cl,lv=slv gl (c+N) cl/\Hid (Kd 45 w2.heap.size wx gl cl (ss (b++List.replicate N 0)))/\Ext w2 wx)
  case first =>
    have d7:Ext w2 w2.drew:=(Ext.refl w2).drew;have hcbI:(c:Int)<=(cb:Int):=by omega
    have hNews : ∀W gr cr,Kd 45 0 W gr cr (ss (List.replicate N 0)) -> ∀(j:Nat) (u:Value),(ss (List.replicate N 0))[j]? = some u->W.cell? ((⟨gr,0,none⟩:Addr).add j)=some u:=λW gr cr hO j u hj=>by
      have h2:=hO.sl.cell j u hj;simpa [Addr.add_lit] using h2
    have HNews:=hid hNews
    have HOne:=hid (show ∀u∈ss (List.replicate N 0),u.oneCell'=true from λu hu=>by
      obtain ⟨y,_,rfl⟩:=List.mem_map.1 hu
      rfl)
    have Hzl:=hid (show (ss (List.replicate N 0)).length=N*1 by rw [Kx];simp);clear hNews
    go_region_law (first
      | (go_simp;go_at_call 64;refine (hbig.out _ _ sb bb ob cb (hE12.trans (by first | exact ((Ext.refl w2).alloc _).drew | exact (((Ext.refl w2).alloc _).alloc _).drew)) HSb.out hcb (by go_simp)).mono ?_;rintro e W7 ⟨v1,ad1,rfl,hG7,hE7⟩;obtain ⟨ga1,cap1,rfl,hcap1,hs1⟩:=hG7.shape;obtain ⟨g1,rfl⟩:=hs1 (by simp);have HG7:=hid hG7;obtain ⟨gx,cx,_,hx1,hx2,_⟩:=hG7.hd (i:=0) (by simp);have HI7:=hid (show KW w2.heap.size W7 (xv b.length gx cx) b from KW.mono hx2 (by simp<;>omega));obtain ⟨xa,xl,xk,hxv⟩:=KeO b.length gx cx;have Hxv:=hid hxv;simp only [List.getD_cons_zero] at hx1;rw [hxv] at hx1;have hx1s:g1<W7.heap.size:=World.block_lt_of_cell? _ _ hx1;have h67:=Ext.trans (show Ext w2 _ by first | exact ((Ext.refl w2).alloc _).drew | exact (((Ext.refl w2).alloc _).alloc _).drew) hE7;clear hG7 hx2 hxv;(first | (have zz:=KqL (v := .string ⟨#[48]⟩) hE7;obtain ⟨z7,z8⟩:=zz) | (have zz:=KqM (v := .string ⟨#[48]⟩) hE7;obtain ⟨z7,z8⟩:=zz) | skip))
      | (go_simp;go_at_call 65;refine (hrep.out _ _ (by rw [Hz1.out];first | exact z7 | go_simp)).mono ?_;rintro e W8 ⟨gr,cr,rfl,hO8,hE8⟩;have hx8:=hE8.cell (by first | exact hx1 | exact ((Ext.refl W7).alloc _).cell hx1);have h78:=Ext.trans (show Ext W7 _ by first | exact Ext.refl _ | exact (Ext.refl _).alloc _) hE8;have HN8:=hid (HNews.out _ _ _ (hO8.mono (Nat.zero_le _)));have HI8:=hid (show KW w2.heap.size W8 (xv b.length gx cx) b from HI7.out.ext h78);have h68:=Ext.trans h67 h78;have hs68:=h68.size;clear hO8)
      | (refine step_append_lies _ (by rfl) _ _ _ (by rfl) w2.heap.size 45 s0 _ 1 16 Tryz.underlying108 hs hy0 hy1 hy2 rfl (by omega) (xv b.length gx cx) b.length (ss b) (by rw [Hxv.out];rfl) HI8.out ⟨gr,0,none⟩ N cr (ss (List.replicate N 0)) (by rfl) Hzl.out HN8.out HOne.out hN2 (by have:=Hbc.out;unfold maxLen;omega) (by have:=Hbc.out;omega) hs68 W8.heap.size (by simp) ?_;intro gg cap9 w9 hown9 hgrow9 hat9 hlt9;have h9:Ext w2 w9:=Ext.mk' (Below.grown h68 hgrow9 hs68 (λq hq=>(World.ownsRow.lt HI8.out q hq).1));have H9:=hid (show Kd 45 w2.heap.size w9 gg cap9 (ss (b++List.replicate N 0)) by unfold Kd;rw [KfI,List.length_append,Hzl.out,Kx,Nat.mul_one];exact hown9);clear hown9 hgrow9 hat9))
    all_goals (try go_wp2_with fail)
    all_goals go_meet
    all_goals exact ⟨gg,cap9,by rw [<-Hbc.out],H9,h9⟩
  case rest =>
    obtain ⟨gl,cl,rfl,hO,hE3⟩:=hcut;generalize wc=X at *;have hE13:=hE12.trans hE3;obtain ⟨ps,hI⟩:=HH.out.1;have hup:=KeJ (c:=c) hI;rw [<-HN.out] at hup;have HRtH:=hid (show Ku (c+N) H by have:=hI.rect;rw [<-HN.out] at this;exact this);have Hup:=hid hup;have HE0:=hid (show 30<=E by rw [HEe.out];have:=Kaj M.length 30 0 (c+M.length);rw [Nat.zero_add] at this;simpa [bC] using this);have HHb2:=hid (show ∀r∈H,∀z∈r,z.natAbs<2^E by rw [HEe.out];exact HHb.out);have hEn:=HE.out;rw [<-HN.out] at hEn;have HEN:=hid hEn;clear hI hup hEn;obtain ⟨sg,bg,og,cg,vg,hgv,hgc,hgl,hgS,hgr⟩:=HG.out;injection hgv with q1 _ q3
    subst q3;have HgS:=hid hgS;have Hgl:=hid hgl;have Hgr:=hid hgr;have Hq1:=hid q1;have hHc:(H.length:Int)<=(cp:Int):=by omega
    clear hgS hgl hgr q1;go_wp2_with fail
    go_loopw [11,44] (λout idx wr => ∃i:Nat,i<=H.length/\idx = .int .i64 i/\Hid (RdO X.heap.size X wr out (upr c (H.take i)))/\Ext X wr) (λ_ idx _=>H.length-(intOf idx).toNat)
    case atStart=>exact ⟨0,by omega,by go_num,hid (RdO.nil _ _ _),Ext.refl _⟩
    case round =>
      obtain ⟨i,hi',rfl,hV,hE4⟩:=hrel;generalize wr=Y at *
      by_cases hlt:i<H.length
      · have hii:(i:Int)<(H.length:Int):=by omega
        have hq:=HgS.out.addr (by rw [Hgl.out];omega);rw [<-Hq1.out] at hq;injection hq with hq
        injection hq with hq1 hq2
        obtain ⟨sr,br,or,cr,hrow,hrc,hSr⟩:=XK.row HgS.out Hgl.out Hgr.out hlt;rw [<-hq1,<-hq2,Nat.zero_add] at hrow;have hrl:H[i].length=c+N:=HRtH.out _ (List.getElem_mem hlt);have hstep:=KnQ (c:=c) hlt;obtain ⟨r,hr⟩ : ∃r,r=H[i]:=⟨_,rfl⟩
        rw [<-hr] at hrow hrc hSr hrl hstep;rw [hrl] at hrow hrc;have hrow':=(hE3.trans hE4).cell hrow;obtain rfl:=hSr.addr (by rw [Kx];omega);have Hrd:=hid (show Z0 X (.slice (some ⟨br,or,none⟩) (c+N) cr) r from ⟨_,br,or,cr,by rw [hrl],by rw [hrl];exact hrc,hSr.ext hE3⟩);have hld:=hid (KaC (w:=Y) (cap:=cr) (hSr.ext (hE3.trans hE4)) (by omega));rw [hrl] at hld;have Hul:=hid (show (upr c (H.take i)).length<=1000000000 by have:=Kkk c (H.take i);rw [List.length_take] at this;omega);clear hq1 hq2 hr hrow hrc hSr hrl;obtain ⟨p,hp⟩ : ∃p,p=pv r:=⟨_,rfl⟩
        rw [<-hp] at hstep hld
        by_cases hpc:p<c
        · have hpi:(p:Int)<(c:Int):=by omega
          rw [if_pos hpc] at hstep;have Hstep:=hid hstep;have hXY:=hE4.size;clear hstep hp hpc;go_wp2_with fail;refine hld.out.mono ?_;rintro e W ⟨rfl,hW⟩;have hWX:=hW.size;go_wp2_with (at_builtin;refine KlX rfl _ _ rfl (B:=X.heap.size) (w0:=X) rfl ((hV.out.ext hW).ext ((Ext.refl _).alloc _)) rfl (b:=W.heap.size) (rv := .slice (some ⟨br,or,none⟩) (c+N) cr) (r:=r) (by go_simp) Hrd.out Hul.out (by simp;omega) ?_;intro gg cap2 w8 hO8 hB8 hG8;rw [<-Hstep.out] at hO8)
          have hE8:Ext X w8:=Below.trans ((hE4.trans hW).alloc _) hB8;have HO8:=hid hO8;clear hG8 hB8 hO8;go_wp2_with fail;go_roundw
          case rel=>exact ⟨i+1,by omega,by go_num,hid (by
            have h1:=HO8.out;rw [Hstep.out] at h1 ⊢
            simpa using h1),hE8⟩
          case measure=>simp [intOf]<;>omega
        · have hpi : ¬(p:Int)<(c:Int):=by omega
          rw [if_neg hpc] at hstep;have Hstep:=hid hstep;clear hstep hp hpc;go_wp2_with fail;refine hld.out.mono ?_;rintro e W ⟨rfl,hW⟩;go_wp2_with fail;go_roundw
          case rel=>exact ⟨i+1,by omega,by go_num,hid (by rw [Hstep.out];exact hV.out.ext hW),hE4.trans hW⟩
          case measure=>simp [intOf]<;>omega
      · have hie:i=H.length:=by omega
        have hV2:=hV.out;rw [hie,List.take_length] at hV2;have hgrd:=hV2.grid hE4;have hii : ¬(i:Int)<(H.length:Int):=by omega
        have hxl:(b++List.replicate N 0).length=c+N:=by rw [List.length_append,Hbc.out,List.length_replicate]
        have hbx : ∀z∈b++List.replicate N 0,z.natAbs<2^E:=λz hz=>by
          have e:(2:Nat)^30=1073741824:=by decide
          have h3:2^30<=2^E:=Nat.pow_le_pow_right (by omega) HE0.out
          rcases List.mem_append.1 hz with hz | hz
          · have:=Hbent.out z hz;omega
          · have:=(List.mem_replicate.1 hz).2;omega
        have hul:=Kkk c H;have hmul:(E+1)*(upr c H).length<=(E+1)*N:=Nat.mul_le_mul_left _ (by omega);have hred:=hid (KcK (w:=Y) hgrd Hup.out.1 ((hO.out.ext hE4).intsR hxl) hxl (by omega) (by omega) (by omega) (λr hr=>(Hup.out.2 r hr).2) (λr hr=>HHb2.out r (List.mem_filter.1 hr).1) hbx (by have:=HEN.out;omega) (HL.out.ext (hE13.trans hE4)))
        have hl1b:=hid (show ∀z∈Ys c H N b,z.natAbs<2^(E+(E+1)*N) from λz hz=>by
          have h3:=Kaz (F:=upr c H) (x:=b++List.replicate N 0) (E:=E) (λr hr=>by rw [Hup.out.1 r hr];exact (Hup.out.2 r hr).2) (λr hr=>HHb2.out r (List.mem_filter.1 hr).1) hbx (upr c H).length (Nat.le_refl _) z (by rw [List.take_length];exact hz)
          exact Nat.lt_of_lt_of_le h3 (Nat.pow_le_pow_right (by omega) (by omega)))
        have hEY:=hE13.trans hE4;rw [show Qw (upr c H) (b++List.replicate N 0)=Ys c H N b from rfl] at hred;clear hie hV hV2 hgrd hxl hbx hul hmul hlt hO;go_wp2_with fail;refine hred.out.mono ?_;rintro e w4 ⟨gx,cx,rfl,hX4,hE5⟩;obtain ⟨l1,hl1⟩ : ∃l1,l1=Ys c H N b:=⟨_,rfl⟩
        rw [<-hl1] at hX4 hl1b;have hl1l:l1.length=c+N:=by rw [hl1,KcM,Hbc.out]
        have hgl:=hX4.lt;have hcx:=hX4.cap;rw [Kx,hl1l] at hcx;have HX4:=hid hX4;have Hl1:=hid hl1;have Hl1l:=hid hl1l;have hld:=hid (KaC (w:=w4) (cap:=cx) hX4.sl (by omega:l1.length<=1000000));rw [hl1l] at hld;have hdec:=KiX (l:=l1) (c:=c) (by omega);have Hdec:=hid hdec;obtain ⟨p,hp⟩ : ∃p,p=pv l1:=⟨_,rfl⟩
        rw [<-hp] at hld Hdec;have hE6:=hEY.trans hE5;clear hX4 hl1 hl1l hdec hp hred
        by_cases hpc:p<c
        · have hpi:(p:Int)<(c:Int):=by omega
          have hnz:=Hdec.out.1 hpc;have Hres:=hid (λW (hW:Ext w4 W)=>show Kc3 w M c b (.returned (.tuple #[.slice none 0 0,.bool false,.int .i64 0])) W from ⟨H,HH.out,hE6.trans hW,.inl ⟨by rw [<-HN.out,<-Hl1.out];exact hnz,rfl⟩⟩);clear hpc hnz;go_wp2_with fail;refine hld.out.mono ?_;rintro e w5 ⟨rfl,hE7⟩;go_wp2_with fail
          go_ret3
          exact Hres.out _ hE7
        · have hpi : ¬(p:Int)<(c:Int):=by omega
          have HZ:=hid (show Y8 (l1.take c) from Classical.byContradiction λh=>hpc (Hdec.out.2 h));have hE1':2*(E+(E+1)*N)+2<LIM:=by have:=HEN.out;omega
          have htn:=hid (λW (hW:Ext w4 W)=>Keu (B:=Y.heap.size) (w:=W) (o:=c) (n:=N) (cp:=cx-c) (HX4.out.ext hW) (by rw [Hl1l.out]) (by omega) (λz hz=>by have:=Kv (hl1b.out z hz);omega));have hcI:(c:Int)<=((c+N:Nat):Int):=by omega
          have hcI2:(c:Int)<=(cx:Int):=by omega
          have hcast:((c+N:Nat):Int)=(c:Int)+(N:Int):=by omega
          have hcne : ¬cx=c:=by omega
          have hcne2 : ¬cx-c=0:=by omega
          clear hpc;go_wp2_with fail;refine hld.out.mono ?_;rintro e w5 ⟨rfl,hE7⟩;have hE57:=hE6.trans hE7;go_wp2_with fail;refine (htn.out _ hE7).mono ?_;rintro e w6 ⟨rfl,hX6,hG6⟩;have hE8:Ext X w6:=Kb (((hE4.trans hE5).trans hE7)) hG6 (by have:=hE4.size;omega);have hE38:=hE3.trans hE8;have hE18:=hE13.trans hE8;have hx0l:(Kbo (l1.drop c)).length=N:=by rw [KcH,List.length_drop,Hl1l.out];omega
          have hxx:l1.take c++(l1.drop c).map (λz => -z)=l1.take c++Kbo (l1.drop c):=rfl;have htl:(l1.take c).length=c:=by rw [List.length_take,Hl1l.out];omega
          rw [hxx] at hX6
          have hxr:Z0 w6 (.slice (some ⟨gx,c,none⟩) N (cx-c)) (Kbo (l1.drop c)):=by
            refine ⟨_,gx,c,cx-c,by rw [hx0l],by rw [hx0l];omega,?_⟩;have:=hX6.sl.drop (c:=c) (ga':=some ⟨gx,0+c,none⟩) rfl;rw [Kgp,List.drop_left' htl,Nat.zero_add] at this;exact this
          have Hxr:=hid hxr;have Hx0l:=hid hx0l
          have hx0b : ∀z∈Kbo (l1.drop c),z.natAbs<2^(E+(E+1)*N):=λz hz=>by
            obtain ⟨y,hy,rfl⟩:=List.mem_map.1 hz;rw [Int.natAbs_neg];exact hl1b.out y (List.mem_of_mem_drop hy)
          have Hx0b:=hid hx0b;obtain ⟨qs,hK,_⟩:=Kbk HRt.out HH.out;have HK:=hid hK;have hkl:=KmV c H
          have Hkb:=hid (show ∀r∈krn c H,∀z∈r,z.natAbs<2^(E+(E+1)*N) from λr hr z hz=>by
            obtain ⟨s,hs,rfl⟩:=List.mem_map.1 hr;have:=HHb2.out s (List.mem_filter.1 hs).1 z (List.mem_of_mem_drop hz)
            exact Nat.lt_of_lt_of_le this (Nat.pow_le_pow_right (by omega) (by omega)))
          have hkr:=hid (KiK (w:=w6) (c:=c) (m:=N) (HG.out.ext hE38) HRtH.out hN2 (by omega) (by omega));have hmul:(E+(E+1)*N+1)*(krn c H).length<=(E+(E+1)*N+1)*N:=Nat.mul_le_mul_left _ (by omega)
          have hrd2:=hid (λW vF (hW:Ext w6 W) (hF:XK W vF (krn c H))=>KcK (w:=W) (m:=N) hF (by have:=HK.out.rect;rw [<-HN.out] at this;exact this) (Hxr.out.ext hW) Hx0l.out hN2 (by omega) (by omega) (λr hr=>by
            obtain ⟨i,hi,rfl⟩:=List.getElem_of_mem hr;have:=HK.out.lt i hi;rw [HK.out.pvs hi,Ka hi,<-HN.out] at this
            exact this) Hkb.out Hx0b.out (by have:=HEN.out;omega) (HL.out.ext (hE18.trans hW)))
          have hsolx:Qw (krn c H) (Kbo (l1.drop c))=XX c H N b:=by rw [Hl1.out];rfl
          rw [hsolx] at hrd2
          have Hsb:=hid (show ∀z∈XX c H N b,nd z<=LIM from λz hz=>by
            have h3:=Kaz (F:=krn c H) (x:=Kbo (l1.drop c)) (E:=E+(E+1)*N) (λr hr=>by
              obtain ⟨i,hi,rfl⟩:=List.getElem_of_mem hr;have h4:=HK.out.lt i hi;rw [HK.out.pvs hi,Ka hi,<-HN.out] at h4;have h5:(krn c H)[i].length=N:=by have:=HK.out.rect _ (List.getElem_mem hi);rw [<-HN.out] at this;exact this
              omega) Hkb.out Hx0b.out (krn c H).length (Nat.le_refl _) z (by rw [List.take_length,hsolx];exact hz)
            have:=Kv h3;have:=HEN.out
            omega)
          have hsxl:(XX c H N b).length=N:=KcN Hbc.out;have Hsxl:=hid hsxl
          have hsml:=hid (λW bx gz cz (hW:Ext w6 W) (hZ:Kd 45 0 W gz cz (ss (XX c H N b))) (hbx:W.cell? ⟨bx,0,none⟩=some (slv gz N cz)) =>
            Ket (w:=W) (v := .slice (some ⟨bx,0,none⟩) 1 1) (M:=[XX c H N b]) ⟨_,bx,0,1,[slv gz N cz],rfl,Nat.le_refl _,rfl,⟨λ_=>rfl,λi x hx=>by
              have:i=0:=by have:=(List.getElem?_eq_some_iff.1 hx).1;simp at this;omega
              subst this;simp only [List.getElem?_cons_zero,Option.some.injEq] at hx
              rw [<-hx];exact hbx⟩,λi a bb'=>by
              have:i=0:=by simp at a;omega
              subst this
              exact hZ.intsR Hsxl.out⟩ (by simp) (λr hr=>by simp at hr;subst hr;rw [Hsxl.out];omega) (λr hr z hz=>by simp at hr;subst hr;exact Hsb.out z hz) (HL.out.ext (hE18.trans hW)))
          have HZ2:=hid (show Y8 ((Ys c H M.length b).take c) by rw [<-HN.out,<-Hl1.out];exact HZ.out);clear hX6 hxr hx0l hx0b hK hkl hmul hsolx hsxl hxx htl htn hld;go_wp2_with fail;refine hkr.out.mono ?_;rintro e w7 ⟨vK,rfl,hgK,hE9⟩;obtain ⟨ka,kb,ko,kc,kv,hkv,hk2⟩:=id hgK;have HgK:=hid hgK;clear hgK hk2;subst hkv;go_wp2_with fail;refine (hrd2.out _ _ hE9 HgK.out).mono ?_;rintro e w8 ⟨gz,cz,rfl,hZ8,hE10⟩;have HZ8:=hid (hZ8.mono (Nat.zero_le _));clear hZ8;have hE610:=hE9.trans hE10;go_wp2_with fail;refine (hsml.out _ w8.heap.size gz cz (hE610.alloc _) (HZ8.out.ext ((Ext.refl _).alloc _)) (by go_simp)).mono ?_;rintro e w9 ⟨hp9,hE11⟩;have hfin:=hE18.trans ((hE610.alloc _).trans hE11)
          cases hs:QK (XX c H N b)
          · have hsm:Xq [XX c H N b]=false:=by simp [Xq,hs]
            rw [if_neg (by rw [hsm];decide)] at hp9;subst hp9;have Hres:=hid (show Kc3 w M c b (.returned (.tuple #[.slice none 0 0,.bool false,.int .i64 4])) w9 from ⟨H,HH.out,hfin,.inr (.inr ⟨HZ2.out,by rw [<-HN.out];exact hs,rfl⟩)⟩);clear hs hsm;go_wp2_with fail
            go_ret3
            exact Hres.out
          · have hsm:Xq [XX c H N b]=true:=by simp [Xq,hs]
            rw [if_pos hsm] at hp9;obtain ⟨vr,rfl,hvr⟩:=hp9;obtain ⟨vs9,hv1,hv2,hv3⟩:=hvr;have h90:=hv3 0 (by simp) (by rw [hv1];simp)
            rcases hv2.2 with ⟨_,h0'⟩ | ⟨g9,c9,cur9,rfl,_,_,hc9,_⟩
            · simp at h0'
            · have hc9':=World.ownsRow.cellAt hv2 0 (by simp)
              rw [List.getElem?_eq_getElem (by rw [hv1];simp)] at hc9';simp only [List.length_singleton] at hc9 hc9';obtain ⟨rv,hrv⟩ : ∃rv,rv=vs9[0]'(by rw [hv1];simp):=⟨_,rfl⟩
              rw [<-hrv] at hc9' h90;have hc10:w9.cell? ⟨g9,0,none⟩=some rv:=by simpa using hc9'
              have hsz8:=(hE18.trans (hE610.alloc (.cells #[slv gz N cz] 108))).size;have Hres:=hid (show Kc3 w M c b (.returned (.tuple #[rv,.bool true,.int .i64 0])) w9 from ⟨H,HH.out,hfin,.inr (.inl ⟨HZ2.out,by rw [<-HN.out];exact hs,rv,rfl,by rw [<-HN.out];exact KH.mono h90 hsz8⟩)⟩);clear hs hsm h90 hv1 hv2 hv3 hrv hc9';go_wp2_with fail
              go_ret3
              exact Hres.out
end
section
open Hnf
theorem KbV {M:Mx} {i:Nat} (h:M.length<=i) (j:Nat):eM M i j=0:=by
 unfold eM;have:M.getD i []=[]:=by simp [List.getD,List.getElem?_eq_none h]
 rw [this];simp
theorem Kmc {M:Mx} (h:M.length<=3) (y:V) (j:Nat):cmb M y j=T3 (eM M) y j:=by
 unfold cmb T3
 rcases (show M.length=0\/M.length=1\/M.length=2\/M.length=3 by omega) with e | e | e | e
 ·rw [e,KbV (i:=0) (by omega),KbV (i:=1) (by omega),KbV (i:=2) (by omega)];simp [KD]
 ·rw [e,KbV (i:=1) (by omega),KbV (i:=2) (by omega)];simp [KD]
 ·rw [e,KbV (i:=2) (by omega)];simp [KD]
 ·rw [e];simp [KD]
theorem Krj {y:List Int} {i:Nat} (h:y.length<=i):vr y i=0:=by unfold vr;simp [List.getD,List.getElem?_eq_none h]
theorem Knz {x:List Int} (hx:x.length<=3) (hb:(vr x 0).natAbs<=1000000/\(vr x 1).natAbs<=1000000/\(vr x 2).natAbs<=1000000):QK x=true:=by
 unfold QK;rw [List.all_eq_true];intro z hzm;obtain ⟨i,hi,rfl⟩:=List.getElem_of_mem hzm
 have hz3:(x[i]).natAbs<=1000000:=by
  have e:x[i]=vr x i:=by unfold vr;rw [Ka hi]
  rw [e]
  rcases (show i=0\/i=1\/i=2 by omega) with rfl | rfl | rfl
  ·exact hb.1
  ·exact hb.2.1
  ·exact hb.2.2
 unfold grt;simp only [Bool.not_eq_true',decide_eq_false_iff_not];omega
end
section
open Go.RowKit Go.Sort Hnf
def Ze (v:List Int):Mx:=v.map λz=>[z]
@[simp] theorem Zw (v:List Int):(Ze v).length=v.length:=by simp [Ze]
theorem Kam (v:List Int):Ku 1 (Ze v):=λr hr=>by
 obtain ⟨z,_,rfl⟩:=List.mem_map.1 hr;rfl
theorem Kf1 (v:List Int) (i:Nat):eM (Ze v) i 0=v.getD i 0:=by
 unfold eM Ze;rw [List.getD_eq_getElem?_getD (l:=List.map _ _),List.getElem?_map,List.getD_eq_getElem?_getD (l:=v)]
 cases v[i]?<;>rfl
theorem KnT {v:List Int} (hg : ∀d:Int,(∀z∈v,d∣z)->d∣1) {qs:List Nat} {F:Mx} (hI:IsH 1 qs F) (h2 : ∀u∈KF (Ze v),Ko (KF F) u) (k:Int):Ko (KF F) (vr [k]):=by
 have hl:=Kda hI;have hm : ∀z∈v,Ko (KF F) (vr [z]):=λz hz=>h2 _ (List.mem_map.2 ⟨[z],List.mem_map.2 ⟨z,hz,rfl⟩,rfl⟩)
 have e0 : ∀z:Int,vr [z] 0=z:=λ_=>rfl
 have e1 : ∀(z:Int) (i:Nat),vr [z] (i+1)=0:=λ_ _=>rfl
 match F,hI,hl,hm with
 | [],hI,_,hm =>
  have h0 : ∀z∈v,(0:Int)∣z:=λz hz=>by
   have:=hm z hz
   have e : ∀{y:V},Ko (KF []) y->y 0=0:=λ{y} h=>by
    induction h with
    | zero=>rfl
    | step _ _ hr=>exact absurd hr (by simp [KF])
   have:=e this;rw [e0] at this;rw [this];exact Int.dvd_refl _
  have:=hg 0 h0;rw [Int.zero_dvd] at this;omega
 | [r],hI,_,hm =>
  have hr:r.length=1:=hI.rect r (by simp)
  obtain ⟨g,rfl⟩ : ∃g,r=[g]:=by
   match r,hr with
   | [g],_=>exact ⟨g,rfl⟩
  have hp:qs.getD 0 0=0:=by have:=hI.lt 0 (by simp);omega
  have hg0:0<g:=by
   have:=hI.pos 0 (by simp);rw [hp] at this;exact this
  have hL:KF [[g]]=[vr [g]]:=rfl;rw [hL] at hm ⊢
  have hg1:g=1:=Xm (hg g λz hz=>by
   obtain ⟨t,ht⟩:=Keo.1 (hm z hz);have:=ht 0;rw [e0,e0] at this
   exact ⟨t,by rw [this,Int.mul_comm]⟩) (by omega)
  subst hg1;refine Keo.2 ⟨k,λi => ?_⟩
  match i with
  | 0=>rw [e0,e0,Int.mul_one]
  | i+1=>rw [e1,e1,Int.mul_zero]
 | _::_::_,_,hl,_=>simp at hl
theorem KiY {x w r:Int} {K:Nat} (hw:w≠0) (h:x*w=r) (hr:r.natAbs<=K):x.natAbs<=K:=by
 have h1:(x*w).natAbs=x.natAbs*w.natAbs:=Int.natAbs_mul x w;have h2:1<=w.natAbs:=by omega
 have h3:x.natAbs*1<=x.natAbs*w.natAbs:=Nat.mul_le_mul_left _ h2;rw [h] at h1;omega
theorem Kld {a b:Int} {A B:Nat} (ha:a.natAbs<=A) (hb:b.natAbs<=B):(a*b).natAbs<=A*B:=by
 rw [Int.natAbs_mul];exact Nat.mul_le_mul ha hb
theorem Kri {x w:Nat->Int} {k:Int} (hk:k.natAbs<=1000) (h0:w 0≠0) (hb : ∀i,(w i).natAbs<=128) (hs:x 0*w 0+x 1*w 1+x 2*w 2=k) {N:Nat} (hN:N=2\/N=3) (hx : ∀i,N<=i->x i=0) (hw : ∀i,N<=i->w i=0)
  (HR : ∀(y:Nat->Int) p,y 0*w 0+y 1*w 1+y 2*w 2=0->(∀i,N<=i->y i=0)->y p≠0->(∀i,i<p->y i=0)->0<=x p/\x p<=(y p).natAbs) :
  (x 0).natAbs<=1000000/\(x 1).natAbs<=1000000/\(x 2).natAbs<=1000000:=by
 have b0:=hb 0;have b1:=hb 1;have b2:=hb 2
 have two:w 2=0->(x 0).natAbs<=1000000/\(x 1).natAbs<=1000000:=λhz=>by
  rw [hz,Int.mul_zero,Int.add_zero] at hs
  by_cases h1:w 1=0
  ·have hr:=HR (v3 0 1 0) 1 (by rw [Kgt,Kgu,Kjg,h1,hz];omega) (λi hi=>by
    rcases (show i=2\/3<=i by omega) with rfl | h
    ·rfl
    ·exact Kic _ _ _ h) (by rw [Kgu];omega) (λi hi=>by obtain rfl:i=0:=(by omega);rfl)
   rw [Kgu] at hr;rw [h1,Int.mul_zero,Int.add_zero] at hs;have:=KiY h0 hs hk;omega
  ·have hr:=HR (v3 (w 1) (-w 0) 0) 0 (by rw [Kgt,Kgu,Kjg,Int.neg_mul,Int.mul_comm (w 1)];omega) (λi hi=>by
    rcases (show i=2\/3<=i by omega) with rfl | h
    ·rfl
    ·exact Kic _ _ _ h) (by rw [Kgt];exact h1) (λi hi=>by omega)
   rw [Kgt] at hr;have p0:=Kld (a:=x 0) (b:=w 0) (A:=128) (B:=128) (by omega) b0;have:=KiY (x:=x 1) (r:=k-x 0*w 0) (K:=20000) h1 (by omega) (by omega);omega
 by_cases h2:w 2=0
 ·have h3:=two h2;refine ⟨h3.1,h3.2,?_⟩
  rcases hN with rfl | rfl
  ·rw [hx 2 (by omega)];simp
  ·have hr:=HR (v3 0 0 1) 2 (by rw [Kgt,Kgu,Kjg,h2];omega) (λi hi=>Kic _ _ _ hi) (by rw [Kjg];omega) (λi hi=>by
    rcases (show i=0\/i=1 by omega) with rfl | rfl<;>rfl)
   rw [Kjg] at hr;omega
 ·have hN3:N=3:=by
   rcases hN with h | h
   ·exact absurd (hw 2 (by omega)) h2
   ·exact h
  subst hN3;have hr0:=HR (v3 (w 2) 0 (-w 0)) 0 (by rw [Kgt,Kgu,Kjg,Int.neg_mul,Int.mul_comm (w 2)];omega) (λi hi=>Kic _ _ _ hi) (by rw [Kgt];exact h2) (λi hi=>by omega)
  have hr1:=HR (v3 0 (w 2) (-w 1)) 1 (by rw [Kgt,Kgu,Kjg,Int.neg_mul,Int.mul_comm (w 2)];omega) (λi hi=>Kic _ _ _ hi) (by rw [Kgu];exact h2) (λi hi=>by
   obtain rfl:i=0:=by omega
   rfl)
  rw [Kgt] at hr0;rw [Kgu] at hr1;have p0:=Kld (a:=x 0) (b:=w 0) (A:=128) (B:=128) (by omega) b0;have p1:=Kld (a:=x 1) (b:=w 1) (A:=128) (B:=128) (by omega) b1;have:=KiY (x:=x 2) (r:=k-x 0*w 0-x 1*w 1) (K:=40000) h2 (by omega) (by omega);omega
theorem BkM.vb {n:Nat} {M:Mx} {v:List Int} (h:BkM n M v) (i:Nat):(v.getD i 0).natAbs<=128:=by
 obtain ⟨s,hs,hv⟩:=h.sgn
 have he : ∀i j,(eM M i j).natAbs<=8:=λi j=>by
  have h1:(-8:Int)<=eM M i j:=Rat.intCast_le_intCast.1 (h.el i j).1;have h2:eM M i j<=(8:Int):=Rat.intCast_le_intCast.1 (h.el i j).2;omega
 have hp : ∀i j k l,(eM M i j*eM M k l).natAbs<=64:=λi j k l=>Kld (he i j) (he k l)
 have hm:((mnL n M).getD i 0).natAbs<=128:=by
  rcases h.hn with rfl | rfl
  ·rw [Kb2];have a:=he 0 1;have b:=he 0 0;split
   ·omega
   ·split
    ·omega
    ·simp
  ·obtain ⟨m0,m1,m2⟩:=Kc0 M
   rcases (show i=0\/i=1\/i=2\/3<=i by omega) with rfl | rfl | rfl | h3
   ·rw [m0];have:=hp 0 1 1 2;have:=hp 0 2 1 1;omega
   ·rw [m1];have:=hp 0 2 1 0;have:=hp 0 0 1 2;omega
   ·rw [m2];have:=hp 0 0 1 1;have:=hp 0 1 1 0;omega
   ·rw [List.getD_eq_getElem?_getD,List.getElem?_eq_none (by unfold mnL;rw [if_neg (by omega)];exact h3)];simp
 rw [hv]
 rcases hs with rfl | rfl
 ·rw [Int.one_mul];exact hm
 ·rw [Int.neg_mul,Int.one_mul,Int.natAbs_neg];exact hm
theorem BkM.sol {n:Nat} {M H:Mx} {v:List Int} (h:BkM n M v) (hH:Zs (1+(Ze v).length) (KY (Ze v)) H) {k:Int} (hk:k.natAbs<=1000) :
  Y8 ((Ys 1 H (Ze v).length [k]).take 1)/\QK (XX 1 H (Ze v).length [k])=true/\(XX 1 H (Ze v).length [k]).length=n/\KD (λi=>v.getD i 0*(XX 1 H (Ze v).length [k]).getD i 0) n=k:=by
 have hR:=Kam v;have hvl:=h.vlen;have hcl:(Ze v).length=n:=by rw [Zw,hvl]
 have hn:=h.hn
 have hz:Y8 ((Ys 1 H (Ze v).length [k]).take 1):=by
  rw [KnB hR hH rfl];obtain ⟨qs,hI,h1,h2⟩:=Kfj hR hH;exact (KnT h.gcd hI h2 k).trans h1
 have hc:=KnA hR hH rfl hz 0 (by omega);have hxl:=KcN (n:=(Ze v).length) (H:=H) (b:=[k]) (c:=1) rfl;obtain ⟨qs,hI,hS⟩:=Kbk hR hH;have hcl2:(Kbo ((Ys 1 H (Ze v).length [k]).drop 1)).length=(Ze v).length:=by simp
 have hrg : ∀i,i<(krn 1 H).length->0<=(XX 1 H (Ze v).length [k]).getD (qs.getD i 0) 0/\(XX 1 H (Ze v).length [k]).getD (qs.getD i 0) 0<eM (krn 1 H) i (qs.getD i 0):=λi hi=>Kee hI hcl2 i hi
 refine ⟨hz,?_,by rw [hxl,hcl],?_⟩
 ·generalize XX 1 H (Ze v).length [k]=x at *
  have e0:vr x 0*v.getD 0 0+vr x 1*v.getD 1 0+vr x 2*v.getD 2 0=k:=by
   rw [Kmc (by omega)] at hc;unfold T3 at hc;simp only [Kf1] at hc;exact hc
  refine Knz (by omega) (Kri (x:=vr x) (w:=λi=>v.getD i 0) hk (by have:=h.pos;omega) (λi=>h.vb i) e0 hn (λi hi=>Krj (by omega)) (λi hi=>h.far hi) (λy p hy hf hp h0 => ?_))
  have hs:Ko (KF (krn 1 H)) y:=(hS y).2 ⟨λj hj=>by
   obtain rfl:j=0:=by omega
   rw [Kmc (by omega)];unfold T3;simp only [Kf1];exact hy,λi hi=>hf i (by omega)⟩
  obtain ⟨i,hi,e,hd⟩:=hI.lead hs hp h0;have h1:=hrg i hi;rw [e] at h1;have h2:eM (krn 1 H) i p<=((y p).natAbs:Int):=Int.le_of_dvd (by omega) (Int.dvd_natAbs.2 hd);unfold vr;omega
 ·have e:cmb (Ze v) (vr (XX 1 H (Ze v).length [k])) 0=KD (λi=>v.getD i 0*(XX 1 H (Ze v).length [k]).getD i 0) n:=by
   unfold cmb;rw [hcl];exact QM λi _=>by rw [Kf1,Int.mul_comm];rfl
  rw [<-e,hc];rfl
end
end Go.Proofs.YtdmaofimeknkbaaGreatDoor
