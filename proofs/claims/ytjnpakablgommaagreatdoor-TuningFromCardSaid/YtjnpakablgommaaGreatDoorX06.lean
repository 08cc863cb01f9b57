/- Part 6, beside the shared parts, of the proof of the claim: contracts and plain laws; no condition. -/
import Derived.Test.YtjnpakablgommaaGreatDoorX05
import Derived.Deep.RegionHeld3
import Derived.Deep.CutRange
import Derived.RangeFuncWrites
import Derived.ControlIn
import Derived.Lib.QuietBelow
import Derived.RangeFuncBox
import Derived.RangeFuncNested
import Derived.RangeFuncLeaves
import Derived.Shelf.Abstract
import Derived.OwnWalkIn
import Derived.TacticsInMore
import Derived.LoopNIn
import Derived.LoopIn
set_option maxRecDepth 100000
namespace Go.Proofs.YtjnpakablgommaaGreatDoor
open Go.RowKit Go.Sort
theorem upr_step {c i:Nat} {H:Mx} (h:i<H.length):upr c (H.take (i+1))=if pv H[i]<c then upr c (H.take i)++[H[i]] else upr c (H.take i):=by
 unfold upr
 rw [take_snocM h,List.filter_append]
 by_cases hp:pv H[i]<c
 ·rw [if_pos hp,List.filter_cons_of_pos (by simp [hp])]; simp
 ·rw [if_neg hp,List.filter_cons_of_neg (by simp [hp])]; simp
theorem upr_len (c:Nat) (H:Mx):(upr c H).length≤H.length:=List.length_filter_le _ _
theorem krn_len2 (c:Nat) (H:Mx):(krn c H).length≤H.length:=by unfold krn low; rw [List.length_map]; exact List.length_filter_le _ _
theorem pv_lt_take {l:List Int} {c:Nat} (hc:c≤l.length):pv l<c ↔ ¬ zeroL (l.take c):=by
 constructor
 ·intro h hz
  have:=zero_vr.1 hz (pv l)
  rw [vr_take,if_pos h] at this
  exact pv_ne (by omega) this
 ·intro h
  refine Classical.byContradiction fun hc2=>h (zero_vr.2 fun j => ?_)
  rw [vr_take]
  by_cases hj:j<c
  ·rw [if_pos hj]; exact pv_zero (by omega)
  ·rw [if_neg hj]
def SolPost (w:World) (M:Mx) (c:Nat) (b:List Int) (e:Ending) (w':World):Prop :=
 ∃ H,HnfOf (c+M.length) (wideM M) H∧Ext w w' ∧
  ((¬ zeroL ((solL c H M.length b).take c)∧e = .returned (.tuple #[.slice none 0 0,.bool false,.int .i64 0]))
   ∨ (zeroL ((solL c H M.length b).take c)∧smallB (solX c H M.length b)=true ∧ ∃ v,e = .returned (.tuple #[v,.bool true,.int .i64 0])∧RowV w.heap.size w' v (solX c H M.length b))
   ∨ (zeroL ((solL c H M.length b).take c)∧smallB (solX c H M.length b)=false∧e = .returned (.tuple #[.slice none 0 0,.bool false,.int .i64 4])))
theorem box_a {X W:World} {T:TypeId} {o:Obj} {v:Value} (h:Ext (((X.alloc (.cells #[v] T)).alloc o).drew) W):W.cell? ⟨X.heap.size,0,none⟩=some v∧X.heap.size<W.heap.size :=
 ⟨h.cell (by go_simp),by have:=h.size; simp at this; omega⟩
theorem box_b {X W:World} {T:TypeId} {o:Obj} {v:Value} (h:Ext (((X.alloc o).alloc (.cells #[v] T)).drew) W):W.cell? ⟨X.heap.size+1,0,none⟩=some v∧X.heap.size+1<W.heap.size :=
 ⟨h.cell (by go_simp),by have:=h.size; simp at this; omega⟩
set_option maxHeartbeats 2000000 in
theorem Solve_any {w : World} {vm vb : Value} {M : Mx} {b : List Int} {c E : Nat} (hM : MatR w vm M) (hb : RowR w vb b) (hs0 : sizeE M b = 0) (h0 : 0 < M.length) (hc : c = ncols M) (hEe : E = bC M.length 30 (c + M.length))
    (hE:2*((E+(E+1)*M.length)+((E+(E+1)*M.length)+1)*M.length)+6<LIM) (hL:Laid w) :
    Calls Tryz.prog 128 #[vm,vb] w (SolPost w M c b):=by
  obtain ⟨hck,hrk,hbl⟩:=sizeE_ok hs0
  obtain ⟨hl12,hn12,hRt,hent⟩:=checkM_ok hck
  obtain ⟨hb64,hbent⟩:=chkRow_ok hrk
  have hbc:b.length=c:=by rw [hc]; exact hbl h0
  rw [← hc] at hn12 hRt
  have hsz:=Lib.hid (sized_any hM hb)
  rw [hs0] at hsz
  obtain ⟨N,hN⟩ : ∃ N,N=M.length:=⟨_,rfl⟩
  have hwd:=Lib.hid (fun W (hW:Ext w W)=>wide_any (hM.ext hW) hRt h0 (by omega) (by omega) hent (by rw [← hEe]; have:(E+1)*M.length≥(E+1)*1:=Nat.mul_le_mul_left _ h0; omega) (hL.ext hW))
  have hbig:=Lib.hid (fun W (bx:Nat) (sb:Option Addr) (bb ob cb:Nat) (hW:Ext w W) (hS:Sl w sb bb ob (is b)) (hcb:b.length≤cb) (hbx:W.cell? ⟨bx,0,none⟩=some (.slice sb b.length cb)) =>
    sbig_any (w:=W) (v := .slice (some ⟨bx,0,none⟩) 1 1) (M:=[b]) ⟨_,bx,0,1,[.slice sb b.length cb],rfl,Nat.le_refl _,rfl,⟨fun _=>rfl,fun i x hx=>by
      have:i=0:=by have:=(List.getElem?_eq_some_iff.1 hx).1; simp at this; omega
      subst this
      simp only [List.getElem?_cons_zero,Option.some.injEq] at hx
      rw [← hx]; exact hbx⟩,fun i a bb'=>by
      have:i=0:=by simp at a; omega
      subst this
      exact ⟨sb,bb,ob,cb,rfl,hcb,hS.ext hW⟩⟩ (by simp) (fun r hr=>by simp at hr; subst hr; omega) (fun r hr z hz=>by simp at hr; subst hr; have:=hbent z hz; unfold I64; omega) (hL.ext hW))
  obtain ⟨sb,bb,ob,cb,rfl,hcb,hSb⟩:=hb
  obtain ⟨sa,gb,go,cap,vs,rfl,hcap,hvl,hS,hr⟩:=hM
  obtain rfl:=hS.addr (by omega)
  have hrep:=Lib.hid (fun W (bx:Nat) (hW:W.cell? ⟨bx,0,none⟩=some (I 0))=>repeat_any (m:=N) (by omega) (b:=bx) (o:=0) (c:=1) (z:=0) (w:=W) hW)
  obtain ⟨s0,hs,hy0,hy1,hy2⟩:=info_parts Tryz.infoStr
  have HSb:=Lib.hid hSb
  have HRt:=Lib.hid hRt
  have Hent:=Lib.hid hent
  have Hbent:=Lib.hid hbent
  have HE:=Lib.hid hE
  have HEe:=Lib.hid hEe
  have HL:=Lib.hid hL
  have HN:=Lib.hid hN
  have Hbc:=Lib.hid hbc
  have hN2:0<N:=by omega
  have hN12:N≤12:=by omega
  have hN0:(N==0)=false:=beq_eq_false_iff_ne.2 (by omega)
  have hN1:((N:Int)==0)=false:=beq_eq_false_iff_ne.2 (by omega)
  have hz1:I 0 = .string ⟨#[48]⟩:=by unfold I S; rw [itoa_zero]
  have Hz1:=Lib.hid hz1
  rw [← hN] at hsz hwd h0 hcap hl12 ⊢
  rw [hbc] at hsz hcb hbig ⊢
  clear hs0 hck hrk hbl hRt hent hbent hSb hE hEe hL hN hbc hS hvl hr hc hz1
  go_enter Tryz.func128,Tryz.ntmps128
  go_wp2_with fail
  refine hsz.out.mono ?_
  rintro e w1 ⟨rfl,hE1⟩
  go_wp2_with fail
  refine (hwd.out _ hE1).mono ?_
  rintro e w2 ⟨g,cp,H,rfl,hH,hHl,hG,hHb,hE2⟩
  rw [← HN.out] at hHl
  have hE12:=hE1.trans hE2
  have HH:=Lib.hid hH
  have HG:=Lib.hid hG
  have HHb:=Lib.hid hHb
  clear hsz hwd hH hG hHb
  go_upto_region 7 with fail
  go_cut [10] from 32 to 42 (fun lv wx => ∃ gl cl,lv=slv gl (c+N) cl∧Hid (OwnV 79 w2.heap.size wx gl cl (ss (b++List.replicate N 0)))∧Ext w2 wx)
  case first =>
    have d7:Ext w2 w2.drew:=(Ext.refl w2).drew
    have hcbI:(c:Int)≤(cb:Int):=by omega
    have hNews : ∀ W gr cr,OwnV 79 0 W gr cr (ss (List.replicate N 0)) → ∀ (j:Nat) (u:Value),(ss (List.replicate N 0))[j]? = some u→W.cell? ((⟨gr,0,none⟩:Addr).add j)=some u:=fun W gr cr hO j u hj=>by
      have h2:=hO.sl.cell j u hj
      simpa [Addr.add_lit] using h2
    have HNews:=Lib.hid hNews
    have HOne:=Lib.hid (show ∀ u∈ss (List.replicate N 0),u.oneCell'=true from fun u hu=>by
      obtain ⟨y,_,rfl⟩:=List.mem_map.1 hu
      rfl)
    have Hzl:=Lib.hid (show (ss (List.replicate N 0)).length=N*1 by rw [ss_length]; simp)
    clear hNews
    go_region_law (first
      | (go_simp; go_at_call 185; refine (hbig.out _ _ sb bb ob cb (hE12.trans (by first | exact ((Ext.refl w2).alloc _).drew | exact (((Ext.refl w2).alloc _).alloc _).drew)) HSb.out hcb (by go_simp)).mono ?_; rintro e W7 ⟨v1,ad1,rfl,hG7,hE7⟩; obtain ⟨ga1,cap1,rfl,hcap1,hs1⟩:=hG7.shape; obtain ⟨g1,rfl⟩:=hs1 (by simp); have HG7:=Lib.hid hG7; obtain ⟨gx,cx,_,hx1,hx2,_⟩:=hG7.hd (i:=0) (by simp); have HI7:=Lib.hid (show IntsV w2.heap.size W7 (xv b.length gx cx) b from IntsV.mono hx2 (by simp <;> omega)); obtain ⟨xa,xl,xk,hxv⟩:=xv_slice b.length gx cx; have Hxv:=Lib.hid hxv; simp only [List.getD_cons_zero] at hx1; rw [hxv] at hx1; have hx1s:g1<W7.heap.size:=World.block_lt_of_cell? _ _ hx1; have h67:=Ext.trans (show Ext w2 _ by first | exact ((Ext.refl w2).alloc _).drew | exact (((Ext.refl w2).alloc _).alloc _).drew) hE7; clear hG7 hx2 hxv; (first | (have zz:=box_a (v := .string ⟨#[48]⟩) hE7; obtain ⟨z7,z8⟩:=zz) | (have zz:=box_b (v := .string ⟨#[48]⟩) hE7; obtain ⟨z7,z8⟩:=zz) | skip))
      | (go_simp; go_at_call 186; refine (hrep.out _ _ (by rw [Hz1.out]; first | exact z7 | go_simp)).mono ?_; rintro e W8 ⟨gr,cr,rfl,hO8,hE8⟩; have hx8:=hE8.cell (by first | exact hx1 | exact ((Ext.refl W7).alloc _).cell hx1); have h78:=Ext.trans (show Ext W7 _ by first | exact Ext.refl _ | exact (Ext.refl _).alloc _) hE8; have HN8:=Lib.hid (HNews.out _ _ _ (hO8.mono (Nat.zero_le _))); have HI8:=Lib.hid (show IntsV w2.heap.size W8 (xv b.length gx cx) b from HI7.out.ext h78); have h68:=Ext.trans h67 h78; have hs68:=h68.size; clear hO8)
      | (refine step_append_lies _ (by rfl) _ _ _ (by rfl) w2.heap.size 79 s0 _ 1 16 Tryz.underlying144 hs hy0 hy1 hy2 rfl (by omega) (xv b.length gx cx) b.length (ss b) (by rw [Hxv.out]; rfl) HI8.out ⟨gr,0,none⟩ N cr (ss (List.replicate N 0)) (by rfl) Hzl.out HN8.out HOne.out hN2 (by have:=Hbc.out; unfold maxLen; omega) (by have:=Hbc.out; omega) hs68 W8.heap.size (by simp) ?_; intro gg cap9 w9 hown9 hgrow9 hat9 hlt9; have h9:Ext w2 w9:=Ext.mk' (Below.grown h68 hgrow9 hs68 (fun q hq=>(World.ownsRow.lt HI8.out q hq).1)); have H9:=Lib.hid (show OwnV 79 w2.heap.size w9 gg cap9 (ss (b++List.replicate N 0)) by unfold OwnV; rw [ss_append,List.length_append,Hzl.out,ss_length,Nat.mul_one]; exact hown9); clear hown9 hgrow9 hat9))
    all_goals (try go_wp2_with fail)
    all_goals go_meet
    all_goals exact ⟨gg,cap9,by rw [← Hbc.out],H9,h9⟩
  case rest =>
    obtain ⟨gl,cl,rfl,hO,hE3⟩:=hcut
    generalize wc=X at *
    have hE13:=hE12.trans hE3
    obtain ⟨ps,hI⟩:=HH.out.1
    have hup:=upr_rows (c:=c) hI
    rw [← HN.out] at hup
    have HRtH:=Lib.hid (show Rect (c+N) H by have:=hI.rect; rw [← HN.out] at this; exact this)
    have Hup:=Lib.hid hup
    have HE0:=Lib.hid (show 30≤E by rw [HEe.out]; have:=bC_mono M.length 30 0 (c+M.length); rw [Nat.zero_add] at this; simpa [bC] using this)
    have HHb2:=Lib.hid (show ∀ r∈H,∀ z∈r,z.natAbs<2^E by rw [HEe.out]; exact HHb.out)
    have hEn:=HE.out
    rw [← HN.out] at hEn
    have HEN:=Lib.hid hEn
    clear hI hup hEn
    obtain ⟨sg,bg,og,cg,vg,hgv,hgc,hgl,hgS,hgr⟩:=HG.out
    injection hgv with q1 _ q3
    subst q3
    have HgS:=Lib.hid hgS
    have Hgl:=Lib.hid hgl
    have Hgr:=Lib.hid hgr
    have Hq1:=Lib.hid q1
    have hHc:(H.length:Int)≤(cp:Int):=by omega
    clear hgS hgl hgr q1
    go_wp2_with fail
    go_loopw [11,44] (fun out idx wr => ∃ i:Nat,i≤H.length∧idx = .int .i64 i∧Hid (RdO X.heap.size X wr out (upr c (H.take i)))∧Ext X wr) (fun _ idx _=>H.length-(intOf idx).toNat)
    case atStart=>exact ⟨0,by omega,by go_num,Lib.hid (RdO.nil _ _ _),Ext.refl _⟩
    case round =>
      obtain ⟨i,hi',rfl,hV,hE4⟩:=hrel
      generalize wr=Y at *
      by_cases hlt:i<H.length
      · have hii:(i:Int)<(H.length:Int):=by omega
        have hq:=HgS.out.addr (by rw [Hgl.out]; omega)
        rw [← Hq1.out] at hq
        injection hq with hq
        injection hq with hq1 hq2
        obtain ⟨sr,br,or,cr,hrow,hrc,hSr⟩:=GridR.row HgS.out Hgl.out Hgr.out hlt
        rw [← hq1, ← hq2,Nat.zero_add] at hrow
        have hrl:H[i].length=c+N:=HRtH.out _ (List.getElem_mem hlt)
        have hstep:=upr_step (c:=c) hlt
        obtain ⟨r,hr⟩ : ∃ r,r=H[i]:=⟨_,rfl⟩
        rw [← hr] at hrow hrc hSr hrl hstep
        rw [hrl] at hrow hrc
        have hrow':=(hE3.trans hE4).cell hrow
        obtain rfl:=hSr.addr (by rw [ss_length]; omega)
        have Hrd:=Lib.hid (show IntsR X (.slice (some ⟨br,or,none⟩) (c+N) cr) r from ⟨_,br,or,cr,by rw [hrl],by rw [hrl]; exact hrc,hSr.ext hE3⟩)
        have hld:=Lib.hid (slead_any (w:=Y) (cap:=cr) (hSr.ext (hE3.trans hE4)) (by omega))
        rw [hrl] at hld
        have Hul:=Lib.hid (show (upr c (H.take i)).length≤1000000000 by have:=upr_len c (H.take i); rw [List.length_take] at this; omega)
        clear hq1 hq2 hr hrow hrc hSr hrl
        obtain ⟨p,hp⟩ : ∃ p,p=pv r:=⟨_,rfl⟩
        rw [← hp] at hstep hld
        by_cases hpc:p<c
        · have hpi:(p:Int)<(c:Int):=by omega
          rw [if_pos hpc] at hstep
          have Hstep:=Lib.hid hstep
          have hXY:=hE4.size
          clear hstep hp hpc
          go_wp2_with fail
          refine hld.out.mono ?_
          rintro e W ⟨rfl,hW⟩
          have hWX:=hW.size
          go_wp2_with (at_builtin; refine app_rd rfl _ _ rfl (B:=X.heap.size) (w0:=X) rfl ((hV.out.ext hW).ext ((Ext.refl _).alloc _)) rfl (b:=W.heap.size) (rv := .slice (some ⟨br,or,none⟩) (c+N) cr) (r:=r) (by go_simp) Hrd.out Hul.out (by simp; omega) ?_; intro gg cap2 w8 hO8 hB8 hG8; rw [← Hstep.out] at hO8)
          have hE8:Ext X w8:=Below.trans ((hE4.trans hW).alloc _) hB8
          have HO8:=Lib.hid hO8
          clear hG8 hB8 hO8
          go_wp2_with fail
          go_roundw
          case rel=>exact ⟨i+1,by omega,by go_num,Lib.hid (by
            have h1:=HO8.out
            rw [Hstep.out] at h1 ⊢
            simpa using h1),hE8⟩
          case measure=>simp [intOf] <;> omega
        · have hpi : ¬ (p:Int)<(c:Int):=by omega
          rw [if_neg hpc] at hstep
          have Hstep:=Lib.hid hstep
          clear hstep hp hpc
          go_wp2_with fail
          refine hld.out.mono ?_
          rintro e W ⟨rfl,hW⟩
          go_wp2_with fail
          go_roundw
          case rel=>exact ⟨i+1,by omega,by go_num,Lib.hid (by rw [Hstep.out]; exact hV.out.ext hW),hE4.trans hW⟩
          case measure=>simp [intOf] <;> omega
      · have hie:i=H.length:=by omega
        have hV2:=hV.out
        rw [hie,List.take_length] at hV2
        have hgrd:=hV2.grid hE4
        have hii : ¬ (i:Int)<(H.length:Int):=by omega
        have hxl:(b++List.replicate N 0).length=c+N:=by rw [List.length_append,Hbc.out,List.length_replicate]
        have hbx : ∀ z∈b++List.replicate N 0,z.natAbs<2^E:=fun z hz=>by
          have e:(2:Nat)^30=1073741824:=by decide
          have h3:2^30≤2^E:=Nat.pow_le_pow_right (by omega) HE0.out
          rcases List.mem_append.1 hz with hz | hz
          · have:=Hbent.out z hz; omega
          · have:=(List.mem_replicate.1 hz).2; omega
        have hul:=upr_len c H
        have hmul:(E+1)*(upr c H).length≤(E+1)*N:=Nat.mul_le_mul_left _ (by omega)
        have hred:=Lib.hid (reduced_any (w:=Y) hgrd Hup.out.1 ((hO.out.ext hE4).intsR hxl) hxl (by omega) (by omega) (by omega) (fun r hr=>(Hup.out.2 r hr).2) (fun r hr=>HHb2.out r (List.mem_filter.1 hr).1) hbx (by have:=HEN.out; omega) (HL.out.ext (hE13.trans hE4)))
        have hl1b:=Lib.hid (show ∀ z∈solL c H N b,z.natAbs<2^(E+(E+1)*N) from fun z hz=>by
          have h3:=redX_bits (F:=upr c H) (x:=b++List.replicate N 0) (E:=E) (fun r hr=>by rw [Hup.out.1 r hr]; exact (Hup.out.2 r hr).2) (fun r hr=>HHb2.out r (List.mem_filter.1 hr).1) hbx (upr c H).length (Nat.le_refl _) z (by rw [List.take_length]; exact hz)
          exact Nat.lt_of_lt_of_le h3 (Nat.pow_le_pow_right (by omega) (by omega)))
        have hEY:=hE13.trans hE4
        rw [show redX (upr c H) (b++List.replicate N 0)=solL c H N b from rfl] at hred
        clear hie hV hV2 hgrd hxl hbx hul hmul hlt hO
        go_wp2_with fail
        refine hred.out.mono ?_
        rintro e w4 ⟨gx,cx,rfl,hX4,hE5⟩
        obtain ⟨l1,hl1⟩ : ∃ l1,l1=solL c H N b:=⟨_,rfl⟩
        rw [← hl1] at hX4 hl1b
        have hl1l:l1.length=c+N:=by rw [hl1,solL_length,Hbc.out]
        have hgl:=hX4.lt
        have hcx:=hX4.cap
        rw [ss_length,hl1l] at hcx
        have HX4:=Lib.hid hX4
        have Hl1:=Lib.hid hl1
        have Hl1l:=Lib.hid hl1l
        have hld:=Lib.hid (slead_any (w:=w4) (cap:=cx) hX4.sl (by omega:l1.length≤1000000))
        rw [hl1l] at hld
        have hdec:=pv_lt_take (l:=l1) (c:=c) (by omega)
        have Hdec:=Lib.hid hdec
        obtain ⟨p,hp⟩ : ∃ p,p=pv l1:=⟨_,rfl⟩
        rw [← hp] at hld Hdec
        have hE6:=hEY.trans hE5
        clear hX4 hl1 hl1l hdec hp hred
        by_cases hpc:p<c
        · have hpi:(p:Int)<(c:Int):=by omega
          have hnz:=Hdec.out.1 hpc
          have Hres:=Lib.hid (fun W (hW:Ext w4 W)=>show SolPost w M c b (.returned (.tuple #[.slice none 0 0,.bool false,.int .i64 0])) W from ⟨H,HH.out,hE6.trans hW,.inl ⟨by rw [← HN.out, ← Hl1.out]; exact hnz,rfl⟩⟩)
          clear hpc hnz
          go_wp2_with fail
          refine hld.out.mono ?_
          rintro e w5 ⟨rfl,hE7⟩
          go_wp2_with fail
          go_ret3
          exact Hres.out _ hE7
        · have hpi : ¬ (p:Int)<(c:Int):=by omega
          have HZ:=Lib.hid (show zeroL (l1.take c) from Classical.byContradiction fun h=>hpc (Hdec.out.2 h))
          have hE1':2*(E+(E+1)*N)+2<LIM:=by have:=HEN.out; omega
          have htn:=Lib.hid (fun W (hW:Ext w4 W)=>sturn_part (B:=Y.heap.size) (w:=W) (o:=c) (n:=N) (cp:=cx-c) (HX4.out.ext hW) (by rw [Hl1l.out]) (by omega) (fun z hz=>by have:=nd_lt2 (hl1b.out z hz); omega))
          have hcI:(c:Int)≤((c+N:Nat):Int):=by omega
          have hcI2:(c:Int)≤(cx:Int):=by omega
          have hcast:((c+N:Nat):Int)=(c:Int)+(N:Int):=by omega
          have hcne : ¬ cx=c:=by omega
          have hcne2 : ¬ cx-c=0:=by omega
          clear hpc
          go_wp2_with fail
          refine hld.out.mono ?_
          rintro e w5 ⟨rfl,hE7⟩
          have hE57:=hE6.trans hE7
          go_wp2_with fail
          refine (htn.out _ hE7).mono ?_
          rintro e w6 ⟨rfl,hX6,hG6⟩
          have hE8:Ext X w6:=ext_trans_grown (((hE4.trans hE5).trans hE7)) hG6 (by have:=hE4.size; omega)
          have hE38:=hE3.trans hE8
          have hE18:=hE13.trans hE8
          have hx0l:(negM (l1.drop c)).length=N:=by rw [negM_length,List.length_drop,Hl1l.out]; omega
          have hxx:l1.take c++(l1.drop c).map (fun z => -z)=l1.take c++negM (l1.drop c):=rfl
          have htl:(l1.take c).length=c:=by rw [List.length_take,Hl1l.out]; omega
          rw [hxx] at hX6
          have hxr:IntsR w6 (.slice (some ⟨gx,c,none⟩) N (cx-c)) (negM (l1.drop c)):=by
            refine ⟨_,gx,c,cx-c,by rw [hx0l],by rw [hx0l]; omega,?_⟩
            have:=hX6.sl.drop (c:=c) (ga':=some ⟨gx,0+c,none⟩) rfl
            rw [ss_drop,List.drop_left' htl,Nat.zero_add] at this
            exact this
          have Hxr:=Lib.hid hxr
          have Hx0l:=Lib.hid hx0l
          have hx0b : ∀ z∈negM (l1.drop c),z.natAbs<2^(E+(E+1)*N):=fun z hz=>by
            obtain ⟨y,hy,rfl⟩:=List.mem_map.1 hz
            rw [Int.natAbs_neg]; exact hl1b.out y (List.mem_of_mem_drop hy)
          have Hx0b:=Lib.hid hx0b
          obtain ⟨qs,hK,_⟩:=krn_form HRt.out HH.out
          have HK:=Lib.hid hK
          have hkl:=krn_len2 c H
          have Hkb:=Lib.hid (show ∀ r∈krn c H,∀ z∈r,z.natAbs<2^(E+(E+1)*N) from fun r hr z hz=>by
            obtain ⟨s,hs,rfl⟩:=List.mem_map.1 hr
            have:=HHb2.out s (List.mem_filter.1 hs).1 z (List.mem_of_mem_drop hz)
            exact Nat.lt_of_lt_of_le this (Nat.pow_le_pow_right (by omega) (by omega)))
          have hkr:=Lib.hid (kernel_any (w:=w6) (c:=c) (m:=N) (HG.out.ext hE38) HRtH.out hN2 (by omega) (by omega))
          have hmul:(E+(E+1)*N+1)*(krn c H).length≤(E+(E+1)*N+1)*N:=Nat.mul_le_mul_left _ (by omega)
          have hrd2:=Lib.hid (fun W vF (hW:Ext w6 W) (hF:GridR W vF (krn c H))=>reduced_any (w:=W) (m:=N) hF (by have:=HK.out.rect; rw [← HN.out] at this; exact this) (Hxr.out.ext hW) Hx0l.out hN2 (by omega) (by omega) (fun r hr=>by
            obtain ⟨i,hi,rfl⟩:=List.getElem_of_mem hr
            have:=HK.out.lt i hi
            rw [HK.out.pvs hi,getD_get hi, ← HN.out] at this
            exact this) Hkb.out Hx0b.out (by have:=HEN.out; omega) (HL.out.ext (hE18.trans hW)))
          have hsolx:redX (krn c H) (negM (l1.drop c))=solX c H N b:=by rw [Hl1.out]; rfl
          rw [hsolx] at hrd2
          have Hsb:=Lib.hid (show ∀ z∈solX c H N b,nd z≤LIM from fun z hz=>by
            have h3:=redX_bits (F:=krn c H) (x:=negM (l1.drop c)) (E:=E+(E+1)*N) (fun r hr=>by
              obtain ⟨i,hi,rfl⟩:=List.getElem_of_mem hr
              have h4:=HK.out.lt i hi
              rw [HK.out.pvs hi,getD_get hi, ← HN.out] at h4
              have h5:(krn c H)[i].length=N:=by have:=HK.out.rect _ (List.getElem_mem hi); rw [← HN.out] at this; exact this
              omega) Hkb.out Hx0b.out (krn c H).length (Nat.le_refl _) z (by rw [List.take_length,hsolx]; exact hz)
            have:=nd_lt2 h3
            have:=HEN.out
            omega)
          have hsxl:(solX c H N b).length=N:=solX_length Hbc.out
          have Hsxl:=Lib.hid hsxl
          have hsml:=Lib.hid (fun W bx gz cz (hW:Ext w6 W) (hZ:OwnV 79 0 W gz cz (ss (solX c H N b))) (hbx:W.cell? ⟨bx,0,none⟩=some (slv gz N cz)) =>
            ssmall_any (w:=W) (v := .slice (some ⟨bx,0,none⟩) 1 1) (M:=[solX c H N b]) ⟨_,bx,0,1,[slv gz N cz],rfl,Nat.le_refl _,rfl,⟨fun _=>rfl,fun i x hx=>by
              have:i=0:=by have:=(List.getElem?_eq_some_iff.1 hx).1; simp at this; omega
              subst this
              simp only [List.getElem?_cons_zero,Option.some.injEq] at hx
              rw [← hx]; exact hbx⟩,fun i a bb'=>by
              have:i=0:=by simp at a; omega
              subst this
              exact hZ.intsR Hsxl.out⟩ (by simp) (fun r hr=>by simp at hr; subst hr; rw [Hsxl.out]; omega) (fun r hr z hz=>by simp at hr; subst hr; exact Hsb.out z hz) (HL.out.ext (hE18.trans hW)))
          have HZ2:=Lib.hid (show zeroL ((solL c H M.length b).take c) by rw [← HN.out, ← Hl1.out]; exact HZ.out)
          clear hX6 hxr hx0l hx0b hK hkl hmul hsolx hsxl hxx htl htn hld
          go_wp2_with fail
          refine hkr.out.mono ?_
          rintro e w7 ⟨vK,rfl,hgK,hE9⟩
          obtain ⟨ka,kb,ko,kc,kv,hkv,hk2⟩:=id hgK
          have HgK:=Lib.hid hgK
          clear hgK hk2
          subst hkv
          go_wp2_with fail
          refine (hrd2.out _ _ hE9 HgK.out).mono ?_
          rintro e w8 ⟨gz,cz,rfl,hZ8,hE10⟩
          have HZ8:=Lib.hid (hZ8.mono (Nat.zero_le _))
          clear hZ8
          have hE610:=hE9.trans hE10
          go_wp2_with fail
          refine (hsml.out _ w8.heap.size gz cz (hE610.alloc _) (HZ8.out.ext ((Ext.refl _).alloc _)) (by go_simp)).mono ?_
          rintro e w9 ⟨hp9,hE11⟩
          have hfin:=hE18.trans ((hE610.alloc _).trans hE11)
          cases hs:smallB (solX c H N b)
          · have hsm:smallM [solX c H N b]=false:=by simp [smallM,hs]
            rw [if_neg (by rw [hsm]; decide)] at hp9
            subst hp9
            have Hres:=Lib.hid (show SolPost w M c b (.returned (.tuple #[.slice none 0 0,.bool false,.int .i64 4])) w9 from ⟨H,HH.out,hfin,.inr (.inr ⟨HZ2.out,by rw [← HN.out]; exact hs,rfl⟩)⟩)
            clear hs hsm
            go_wp2_with fail
            go_ret3
            exact Hres.out
          · have hsm:smallM [solX c H N b]=true:=by simp [smallM,hs]
            rw [if_pos hsm] at hp9
            obtain ⟨vr,rfl,hvr⟩:=hp9
            obtain ⟨vs9,hv1,hv2,hv3⟩:=hvr
            have h90:=hv3 0 (by simp) (by rw [hv1]; simp)
            rcases hv2.2 with ⟨_,h0'⟩ | ⟨g9,c9,cur9,rfl,_,_,hc9,_⟩
            · simp at h0'
            · have hc9':=World.ownsRow.cellAt hv2 0 (by simp)
              rw [List.getElem?_eq_getElem (by rw [hv1]; simp)] at hc9'
              simp only [List.length_singleton] at hc9 hc9'
              obtain ⟨rv,hrv⟩ : ∃ rv,rv=vs9[0]'(by rw [hv1]; simp):=⟨_,rfl⟩
              rw [← hrv] at hc9' h90
              have hc10:w9.cell? ⟨g9,0,none⟩=some rv:=by simpa using hc9'
              have hsz8:=(hE18.trans (hE610.alloc (.cells #[slv gz N cz] 144))).size
              have Hres:=Lib.hid (show SolPost w M c b (.returned (.tuple #[rv,.bool true,.int .i64 0])) w9 from ⟨H,HH.out,hfin,.inr (.inl ⟨HZ2.out,by rw [← HN.out]; exact hs,rv,rfl,by rw [← HN.out]; exact RowV.mono h90 hsz8⟩)⟩)
              clear hs hsm h90 hv1 hv2 hv3 hrv hc9'
              go_wp2_with fail
              go_ret3
              exact Hres.out
end Go.Proofs.YtjnpakablgommaaGreatDoor
namespace Go.Proofs.YtjnpakablgommaaGreatDoor
open Go Go.RowKit
def SeqPr {α:Type} (F:Fence) (n:Nat) (P:Program) (gf:Nat) (lb:Array Value) (encs:α→Array Value) (Kp:World→World→Prop) (Pr:Nat→α→World→Prop) (N:Nat) (w:World):Prop :=
 ∀ (l:Nat) (J:List α→World→Prop) (W:World),Ext w W→(∀ s A B,J s A→Ext A B→J s B) →
  (∀ pre x A,J pre A→pre.length<N→Pr pre.length x A→YieldAt F (n-1) P l (encs x) A fun e B=>e = .returned (.bool true)∧J (pre++[x]) B∧Kp A B) →
  J [] W→CallsIn F n P gf (#[.func (.yield l) #[] #[]]++lb) W fun e B=>(∃ v,e = .returned v) ∧ ∃ xs,xs.length=N∧J xs B
theorem range_pr {F:Fence} {n:Nat} {P:Program} {α:Type} {g:Operand} {ps:Array Tmp} {assign body:Code} {Q:Exit→Act→World→Prop} {a:Act} {w:World}
  (hro:F.round=none) (h1:1≤n) {gf:Nat} {lb:Array Value} (hg:a.eval g = .func (.func gf) #[] lb) (hFg:F.fn gf) (eg : ∀ args w,(callFunc gf args).run P w = .ok (.enter gf args) w)
  {encs:α→Array Value} {Kp:World→World→Prop} {Pr:Nat→α→World→Prop} {N:Nat} {w0:World} (hw0:Ext w0 w) (hseq:SeqPr F (n-1) P gf lb encs Kp Pr N w0)
  (hKt : ∀ {A B C:World},Kp A B→Kp B C→Kp A C) (hKb : ∀ (W:World) (l:Nat) (r r':Loop),w.heap.size≤l→W.heap[l]? = some (.loop r)→Kp W (W.putObj l (.loop r')))
  (hPr : ∀ k x (W:World) (l:Nat) (r r':Loop),W.heap[l]? = some (.loop r)→Pr k x W→Pr k x (W.putObj l (.loop r'))) (hps : ∀ x,(encs x).size=ps.size)
  (I:List α→World→Prop) (hI:OwnFrom w.heap.size I) (hIe : ∀ s A B,I s A→Ext A B→I s B) (h0:I [] w) (a₁:α→Act)
  (hassign : ∀ (l:Nat) (x:α) (W:World) (K:Act→World→Prop),K (a₁ x) W →
   assign.wpIn (F.inRound l) (n-1-1) P (Exit.then K (fun _ _ _=>False)) { tmps:=(ps.zip (encs x)).foldl (fun t (p,v)=>t.setIfInBounds p v) a.tmps,defers:=[] } W)
  (hbody : ∀ (l:Nat) (pre:List α) (x:α) (W:World),I pre W→pre.length<N→Pr pre.length x W→body.wpIn (F.inRound l) (n-1-1) P (ownPostG w.heap.size Kp I (fun _ _ _=>False) (pre++[x]) W) (a₁ x) W)
  (hdone : ∀ (D:Nat) (xs:List α) (W:World),w.heap.size≤D→xs.length=N→I xs W→W.heap[D]? = some (.deferred (some []))→Q .normal { a with defers := { target := .collected D,args := #[] }::a.defers } W) :
  (Code.rangeFunc g ps assign body).wpIn F n P Q a w:=by
 refine wpIn_rangeFunc fun fn hfn => ?_
 rw [hro]
 obtain ⟨lp,hlp⟩ : ∃ lp:LoopState→Option Code→Loop,lp=fun st pe => { state:=st,pending:=pe,fn,tmps:=a.tmps,params:=ps,assign,body,defers:=w.heap.size }:=⟨_,rfl⟩
 obtain ⟨d,hd⟩ : ∃ d,d=w.heap.size:=⟨_,rfl⟩
 have hE1:Ext w ((w.alloc (.deferred (some []))).alloc (.loop (lp .ready none))):=((Ext.refl w).alloc _).alloc _
 have hL1:((w.alloc (.deferred (some []))).alloc (.loop (lp .ready none))).heap[d+1]? = some (.loop (lp .ready none)):=by
  have:=World.alloc_heap_new (w.alloc (.deferred (some []))) (.loop (lp .ready none))
  rw [World.size_alloc] at this; rw [hd]; exact this
 have hD1:((w.alloc (.deferred (some []))).alloc (.loop (lp .ready none))).heap[d]? = some (.deferred (some [])):=by
  rw [hd]; exact (Below.heap_alloc _ _ _ (by simp)).trans (World.alloc_heap_new w _)
 obtain ⟨W1,hW1⟩ : ∃ W1,W1=(w.alloc (.deferred (some []))).alloc (.loop (lp .ready none)):=⟨_,rfl⟩
 rw [← hW1] at hE1 hL1 hD1
 refine ⟨d+1,[{ target := .collected d,args := #[] }],W1, { target := .fn (.func gf) lb,args := #[.func (.yield (d+1)) #[] #[]] },W1,gf,#[.func (.yield (d+1)) #[] #[]]++lb,W1,?_,?_,?_,?_,fun _=>h1,?_⟩
 ·rw [hW1,hlp,hd]; exact run_enterLoop_outer _ _ _ _ _
 ·simp only [resolve,hg]
  simp [go_sem]
 ·intro f' hf'
  simp [Target.leads] at hf'
  subst hf'; exact hFg
 ·simp [invoke,go_sem,eg]
 refine (hseq (d+1) (fun pre W=>I pre W∧W.heap[d+1]? = some (.loop (lp .ready none))∧W.heap[d]? = some (.deferred (some []))) _ (hw0.trans hE1) (fun s A B hs hAB=>⟨hIe _ _ _ hs.1 hAB,(hAB.block _ (Array.getElem?_eq_some_iff.1 hs.2.1).1).trans hs.2.1,(hAB.block _ (Array.getElem?_eq_some_iff.1 hs.2.2).1).trans hs.2.2⟩) ?_ ⟨hIe _ _ _ h0 hE1,hL1,hD1⟩).mono ?_
 ·rintro pre x W ⟨hi,hl,hk⟩ hlen hpr
  have hlt:d+1<W.heap.size:=(Array.getElem?_eq_some_iff.1 hl).1
  have hy:=run_yield (P:=P) (args:=encs x) hl (by rw [hlp]; exact hps x)
  rw [hlp] at hy
  refine ⟨fn,_,assign,body,hy,roundIn_of_wpIn hfn (hassign _ x W _ ⟨_,run_beginRound hl (by rw [hlp]),?_⟩)⟩
  have hl2:(W.putObj (d+1) (.loop { lp .ready none with state := .busy })).heap[d+1]? = some (.loop { lp .ready none with state := .busy }):=World.putObj_heap_same hlt
  have hk2:(W.putObj (d+1) (.loop { lp .ready none with state := .busy })).heap[d]? = some (.deferred (some [])):=(World.putObj_heap_other (by omega)).trans hk
  refine wpIn_mono (hbody _ pre x _ (hI.putObj _ hi (by omega) hl rfl) hlen (hPr _ _ _ _ _ _ hl hpr)) ?_
  rintro e a3 W3 hp
  cases e with
  | normal =>
   obtain ⟨hk3,hkp3,hi3⟩:=hp
   have hl3:=hk3.same _ _ (by omega) hl2 rfl
   have hd3:=hk3.same _ _ (by omega) hk2 rfl
   have hr:=run_endRound (P:=P) none hl3
   refine ⟨_,_,hr,rfl,⟨hI.putObj _ hi3 (by omega) hl3 rfl,?_,(World.putObj_heap_other (by omega)).trans hd3⟩,hKt (hKt (hKb _ _ _ _ (by omega) hl) hkp3) (hKb _ _ _ _ (by omega) hl3)⟩
   rw [World.putObj_heap_same (Array.getElem?_eq_some_iff.1 hl3).1,hlp]
   rfl
  | ret=>exact hp.2.elim
  | exit id=>exact hp.2.elim
  | goto t=>exact hp.2.elim
  | panic ch=>exact hp.elim
  | outgrown=>exact hp.elim
 ·rintro e W2 ⟨⟨v,rfl⟩,xs,hxs,hi,hl,hk⟩
  have hr:=run_endLoop (P:=P) hl (by rw [hlp]; simp)
  rw [show (lp .ready none).pending=none by rw [hlp]] at hr
  refine ⟨none,_,hr,?_⟩
  exact hdone d xs _ (by omega) hxs (hI.putObj _ hi (by omega) hl rfl) ((World.putObj_heap_other (by omega)).trans hk)
section
variable {l n:Nat} {P:Program} {ops:Array Oper} {Q:Exit→Act→World→Prop}
theorem upon_round {o:Oper} {a:Act} {next next':Act→World→Prop} {r:Result Next} (hn : ∀ a w,next a w→next' a w) (h:o.upon P a next Q r):o.uponIn (Fence.wide.inRound l) n P a next' Q r:=by
 cases r with
 | ok x w' =>
  cases x with
  | value v=>exact hn _ _ h
  | skip=>exact hn _ _ h
  | defer d=>exact hn _ _ h
  | enter f args =>
   refine ⟨fun hd=>(by simp [Fence.wide] at hd),?_⟩
   refine CallsIn.mono (callsIn_wide.2 h) fun e w'' he => ?_
   cases e with
   | returned v=>exact hn _ _ he
   | panicked c=>exact he
   | outgrown=>exact he
  | row rw args =>
   refine ⟨fun hd=>(by simp [Fence.wide] at hd),fun c cs _ => ?_⟩
   obtain ⟨v,w'',r,s⟩:=h c cs
   exact ⟨v,w'',hn _ _ r,stepsIn_wide.2 s⟩
  | _=>exact h.elim
 | halt x w'=>cases x <;> first | exact h | exact h.elim
theorem wpOps_round (hd : ∀ (i:Nat) (o:Oper),ops[i]? = some o → ∀ c,o.op≠Op.defer c) (hQ : ∀ a w,¬ Q .outgrown a w) : ∀ (s:List Nat) (a:Act) (w:World),wpOps P ops Q s a w→wpOpsIn (Fence.wide.inRound l) n P ops Q s a w
 | [],_,_,h=>h
 | i::s,a,w,h=>by
  unfold wpOps at h
  unfold wpOpsIn
  split
  ·rename_i e; simp only [e] at h; exact wpOps_round hd hQ s a w h
  ·rename_i o e
   simp only [e] at h
   split
   ·rename_i hw
    rw [if_pos hw] at h
    rcases h with h | ⟨_,a0,w0,h0⟩
    ·refine ⟨fun _ _=>trivial,?_⟩
     rw [show (Fence.wide.inRound l).round=some l from rfl,Oper.semAt_some l _ _ (hd i o e)]
     exact upon_round (wpOps_round hd hQ s) h
    ·exact absurd h0 (hQ a0 w0)
   ·rename_i hw
    rw [if_neg hw] at h
    exact ⟨fun _ _=>trivial,wpOps_round hd hQ s _ _ h⟩
theorem round_any {id:Nat} {a:Act} {w:World} (hm:P.follows .mixedOrders=true) (hd : ∀ (i:Nat) (o:Oper),ops[i]? = some o → ∀ c,o.op≠Op.defer c) (hQ : ∀ a w,¬ Q .outgrown a w)
  (h:wpAny P .any ops Q ops.size (Array.replicate ops.size false) a w.drew):(Code.region id ops true).wpIn (Fence.wide.inRound l) n P Q a w :=
 wpIn_region_draw fun t=>by
  simp only [Region.schedule,hm,Bool.true_or,if_true]
  exact wpOps_round hd hQ _ _ _ (wpAny_sound ops.size t _ a _ h)
def noDefer (l:List Oper):Bool:=l.all fun o=>match o.op with | .defer _=>false | _=>true
theorem noDefer_ops {l:List Oper} (h:noDefer l=true) : ∀ (i:Nat) (o:Oper),l.toArray[i]? = some o → ∀ c,o.op≠Op.defer c:=fun i o ho c e=>by
 have hm:o∈l:=by
  rw [List.getElem?_toArray] at ho
  exact List.mem_of_getElem? ho
 have:=List.all_eq_true.1 h o hm
 rw [e] at this
 cases this
theorem round_quiet {id:Nat} {a:Act} {w:World} {s:List Oper} (hm:P.follows .mixedOrders=true) (hB:Region.lexB .any s.toArray=true) (hd:noDefer s=true) (hQ : ∀ a w,¬ Q .outgrown a w)
  (h:wpQuiet P s.toArray (fun w' => ∃ p:Regrown,w'=Sort.grow (redrawn w p.d) p.os) (fun a' => ∀ w',(∃ p:Regrown,w'=Sort.grow (redrawn w p.d) p.os)→Q .normal a' w') s a):(Code.region id s.toArray true).wpIn (Fence.wide.inRound l) n P Q a w:=by
 refine round_any hm (noDefer_ops hd) hQ ?_
 simp only [Region.lexB,Bool.and_eq_true] at hB
 refine wpAny_of_quiet (C:=fun w' => ∃ p:Regrown,w'=Sort.grow (redrawn w p.d) p.os) (Q:=fun a' => ∀ w',(∃ p:Regrown,w'=Sort.grow (redrawn w p.d) p.os)→Q .normal a' w') (fun _ w' hw' h=>h w' hw') _ _ _ _ ⟨⟨w.drawn+1,#[]⟩,by rw [Sort.grow_empty]; rfl⟩ ?_
 have:=wpAnyQ_lex (C:=fun w' => ∃ p:Regrown,w'=Sort.grow (redrawn w p.d) p.os) (md := .any) hB.1 s 0 (Array.replicate s.toArray.size false) a (by simp) (by simpa using hB.2) h
 simpa using this
end
end Go.Proofs.YtjnpakablgommaaGreatDoor
namespace Go.Proofs.YtjnpakablgommaaGreatDoor
open Go.RowKit Go.Sort Go.Shelf
attribute [local go_sem] Oper.semAt_some
theorem pivots_any {w:World} {m n:Nat} {vb:Value} (_:vb.oneCell'=true) :
  CallsIn Fence.wide m Tryz.prog 300 #[.agg #[.int .i64 n,vb]] w fun e w'=>e = .returned (.func (.func 318) #[] #[.pointer (some ⟨w.heap.size,0,none⟩)])∧w'=w.alloc (.cells #[.int .i64 n,vb] 204):=by
 refine callsIn_wide.2 ?_
 go_enter Tryz.func300,Tryz.ntmps300
 go_wp2_with fail
 go_ret
 exact ⟨rfl,rfl⟩
abbrev encR (n:Nat) (x:Int×Nat×Nat):Array Value := #[.int .i64 x.1,slv x.2.1 n x.2.2]
def PrR (B:Nat) (M:Mx) (k:Nat) (x:Int×Nat×Nat) (W:World):Prop:=x.1=pvI (M.getD k [])∧OwnV 79 B W x.2.1 x.2.2 (ss (M.getD k []))
theorem PrR.put {B k:Nat} {M:Mx} {x:Int×Nat×Nat} {W:World} {l:Nat} {o:Obj} (o':Obj) (hl:W.heap[l]? = some o) (ho:o.isCells=false) (h:PrR B M k x W):PrR B M k x (W.putObj l o') :=
 ⟨h.1,ownsRow_putObj h.2 o' hl ho⟩
set_option maxHeartbeats 2000000 in
theorem pivots1_seq {m Bl n:Nat} {sb:Option Addr} {lb cb:Nat} {M:Mx} {w w0:World} (hm:1≤m) (hM:MatR w (.slice sb lb cb) M) (hR:Rect n M) (hn:n≤1000) (hml:M.length≤1000) (h64 : ∀ r∈M,∀ z∈r,I64 z) (hE:Ext w w0) (hb:w0.cell? ⟨Bl,1,none⟩=some (.slice sb lb cb)) (hL:Laid w) :
  SeqPr Fence.wide m Tryz.prog 318 #[.pointer (some ⟨Bl,0,none⟩)] (encR n) (Below w.heap.size) (PrR w0.heap.size M) M.length w0:=by
 intro l J W hW hJ hY h0
 have HL:=Lib.hid hL
 have HRt:=Lib.hid hR
 have H64:=Lib.hid h64
 have hW1:=hW.cell hb
 obtain ⟨sa,gb,go,cap,vs,hv,hcap,hvl,hS,hr⟩:=hM
 injection hv with q1 q2 q3
 subst q1 q2 q3
 have HS:=Lib.hid hS
 have HV:=Lib.hid hvl
 have HR:=Lib.hid hr
 have HY:=Lib.hid hY
 have HJ:=Lib.hid hJ
 have hwW:=hE.trans hW
 have hsz:=hW.size
 clear hS hvl hr hR h64 hL hY hJ hb
 show CallsIn Fence.wide m Tryz.prog 318 #[.func (.yield l) #[] #[],.pointer (some ⟨Bl,0,none⟩)] W _
 refine callsIn_of_wp Tryz.func318 rfl trivial ?_ rfl
 simp only [Tryz.ntmps318,List.size_toArray,List.length_cons,List.length_nil,Nat.reduceAdd,Nat.reduceSub,Array.replicate_succ,Array.replicate_zero,List.push_toArray,List.append_toArray,List.nil_append,List.cons_append]
 gi_wp2
 gi_loopw [9] (fun i wr => ∃ k:Nat,k≤M.length∧i = .int .i64 k∧Ext w wr∧w0.heap.size≤wr.heap.size∧Hid (∃ pre,pre.length=k∧J pre wr))
  (fun i _=>M.length-(intOf i).toNat)
 case atStart=>exact ⟨0,Nat.zero_le _,rfl,hwW,hsz,Lib.hid ⟨[],rfl,h0⟩⟩
 case round =>
  clear h0
  obtain ⟨k,hk,rfl,hX,hXs,hJs⟩:=hrel
  generalize wr=X at *
  by_cases hlt:k<M.length
  ·have hki:(k:Int)<(M.length:Int):=by omega
   obtain rfl:=HS.out.addr (by rw [HV.out]; omega)
   obtain ⟨sr,br,or,cr,hrow,hrc,hSr⟩:=MatR.row HS.out HV.out HR.out hlt
   have hrl:M[k].length=n:=HRt.out _ (List.getElem_mem hlt)
   have hr64:=H64.out _ (List.getElem_mem hlt)
   have hrow':=hX.cell hrow
   obtain ⟨r,hrd⟩ : ∃ r,r=M[k]:=⟨_,rfl⟩
   have Hrd:=Lib.hid (show M.getD k []=r by rw [getD_get hlt,hrd])
   rw [← hrd] at hrow' hrc hSr hrl hr64
   have hlo:=longOf_any (w:=X) (v := .slice sr r.length cr) (r:=r) ⟨sr,br,or,cr,rfl,hrc,hSr.ext hX⟩ (by omega) hr64 (HL.out.ext hX)
   rw [hrl] at hlo hrow'
   have Hlo:=Lib.hid hlo
   have Hrl:=Lib.hid hrl
   clear hlo hrl hr64 hrd hrow hSr hrc
   gi_wp2
   refine ⟨trivial,(callsIn_wide.2 Hlo.out).mono ?_⟩
   rintro e W2 ⟨g,c,rfl,hO,hE2⟩
   rw [Hrl.out]
   have hld:=llead_any (w:=W2) (cap:=c) hO.sl (by rw [Hrl.out]; omega)
   rw [Hrl.out] at hld
   have Hld:=Lib.hid hld
   have HO:=Lib.hid hO
   obtain ⟨z,hz⟩ : ∃ z,z=pvI r:=⟨_,rfl⟩
   rw [← hz] at Hld
   have Hz:=Lib.hid hz
   clear hld hO hz Hlo
   gi_wp2
   refine ⟨trivial,(callsIn_wide.2 Hld.out).mono ?_⟩
   rintro e W3 ⟨rfl,hE3⟩
   obtain ⟨pre,hpl,hpj⟩:=hJs.out
   have hX3:=hE2.trans hE3
   obtain ⟨fn,tmps,assign,body,hy,hR⟩:=HY.out pre (z,g,c) W3 (HJ.out _ _ _ hpj hX3) (by omega) (by
    rw [hpl]
    refine ⟨by rw [Hrd.out]; exact Hz.out,?_⟩
    rw [Hrd.out]
    exact (HO.out.ext hE3).mono (by omega))
   dsimp only [encR] at hy
   clear Hld
   gi_wp2
   refine hR.mono ?_
   rintro e W4 ⟨rfl,hJ4,hk4⟩
   have hX4:Ext w W4:=Ext.mk' (Below.trans (hX.trans hX3) hk4)
   have hs4:w0.heap.size≤W4.heap.size:=by have:=hX3.size; have:=hk4.size; omega
   gi_wp2
   go_roundw
   case rel=>exact ⟨k+1,by omega,by go_num,hX4,hs4,Lib.hid ⟨pre++[(z,g,c)],by simp [hpl],hJ4⟩⟩
   case measure=>simp [intOf]; omega
  ·obtain rfl:k=M.length:=by omega
   obtain ⟨pre,hpl,hpj⟩:=hJs.out
   gi_wp2
   go_end0
   exact ⟨⟨_,rfl⟩,pre,hpl,hpj⟩
end Go.Proofs.YtjnpakablgommaaGreatDoor
