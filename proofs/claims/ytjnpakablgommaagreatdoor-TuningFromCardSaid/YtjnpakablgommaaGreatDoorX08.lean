/- Part 8, beside the shared parts, of the proof of the claim: contracts and plain laws; no condition. -/
import Derived.Test.YtjnpakablgommaaGreatDoorX07
set_option maxRecDepth 100000
namespace Go.Proofs.YtjnpakablgommaaGreatDoor
open Go.RowKit Go.Sort
def FpPost (w:World) (P:List Int) (C M:Mx) (L:List (List Rat)) (e:Ending) (w':World):Prop :=
 ((∃ c∈C,∃ r∈cmbQ L (nbL c) P.length,r.num≠0)∧e = .returned (.tuple #[tuZ,.int .i64 26])∧Ext w w') ∨
 ((∀ c∈C,∀ r∈cmbQ L (nbL c) P.length,r.num=0) ∧ ∃ S,SecOK P.length C M S∧MdPost w P C M (frG P.length L S) e w')
def FpSz (w:World) (e:Ending) (w':World):Prop:=e = .returned (.tuple #[tuZ,.int .i64 5])∧Ext w w'
theorem frG_snoc {n:Nat} {L:List (List Rat)} {S:Mx} {i:Nat} (h:i<S.length):(frG n L S).take i++[cmbQ L (nbL S[i]) n]=(frG n L S).take (i+1):=by
 have h2:i<(frG n L S).length:=by simpa using h
 rw [List.take_succ_eq_append_getElem h2]
 congr 2
 simp [frG]
set_option maxHeartbeats 4000000 in
theorem tuFrom_size {w:World} {P:List Int} {C M:Mx} {sp:Option Addr} {cp:Nat} {sc:Option Addr} {lc cc:Nat} {sm:Option Addr} {lm cm:Nat} {sz:Option Addr} {cz:Nat} {nz:Nat} (h:TmV w P C M M sp cp sc lc cc sm lm cm) (hne:nz≠P.length) (hL:Laid w) :
  Calls Tryz.prog 40 #[tmS P sp cp sc lc cc sm lm cm,.slice sz nz cz] w (FpSz w):=by
 have hp4:=h.ok.p4
 have hp0:=h.ok.p0
 have hck:=fun W (hW:Ext w W)=>tCheck_any (h.ext hW) (hL.ext hW)
 rw [tmE_same] at hck
 have Hck:=Lib.hid hck
 have HO:=own4 (w.alloc (.cells #[.slice sp P.length cp,.slice sc lc cc,.slice sm lm cm] 34)) 67 (.slice none 0 0) (.slice none 0 0) (.slice none 0 0) (.slice none 0 0)
 rw [show (w.alloc (.cells #[.slice sp P.length cp,.slice sc lc cc,.slice sm lm cm] 34)).heap.size=w.heap.size+1 by simp] at HO
 have hX:=((Ext.refl w).alloc (.cells #[.slice sp P.length cp,.slice sc lc cc,.slice sm lm cm] 34)).alloc (.cells #[.slice none 0 0,.slice none 0 0,.slice none 0 0,.slice none 0 0] 67)
 have x0:((w.alloc (.cells #[.slice sp P.length cp,.slice sc lc cc,.slice sm lm cm] 34)).alloc (.cells #[.slice none 0 0,.slice none 0 0,.slice none 0 0,.slice none 0 0] 67)).cell? ⟨w.heap.size,0,none⟩=some (.slice sp P.length cp):=by go_simp
 have x1:((w.alloc (.cells #[.slice sp P.length cp,.slice sc lc cc,.slice sm lm cm] 34)).alloc (.cells #[.slice none 0 0,.slice none 0 0,.slice none 0 0,.slice none 0 0] 67)).cell? ⟨w.heap.size,1,none⟩=some (.slice sc lc cc):=by go_simp
 have x2:((w.alloc (.cells #[.slice sp P.length cp,.slice sc lc cc,.slice sm lm cm] 34)).alloc (.cells #[.slice none 0 0,.slice none 0 0,.slice none 0 0,.slice none 0 0] 67)).cell? ⟨w.heap.size,2,none⟩=some (.slice sm lm cm):=by go_simp
 have hnI:((nz:Int) != (P.length:Int))=true:=by
  have : ¬ (nz:Int)=(P.length:Int):=by omega
  simpa using this
 have hnJ:((nz:Int)==(P.length:Int))=false:=by
  have : ¬ (nz:Int)=(P.length:Int):=by omega
  simpa using this
 clear h hL hck hne
 go_enter Tryz.func40,Tryz.ntmps40
 go_wp2_with fail
 generalize ((w.alloc (.cells #[.slice sp P.length cp,.slice sc lc cc,.slice sm lm cm] 34)).alloc (.cells #[.slice none 0 0,.slice none 0 0,.slice none 0 0,.slice none 0 0] 67))=V at *
 have HO:=Lib.hid HO
 obtain ⟨b0,hb0⟩ : ∃ b,b=w.heap.size:=⟨_,rfl⟩
 have Hb0:=Lib.hid hb0
 rw [← hb0] at x0 x1 x2 HO ⊢
 clear hb0
 refine (Hck.out _ hX).mono ?_
 rintro e X1 ⟨rfl,hE1⟩
 have e1:=hX.trans hE1
 replace HO:=Lib.hid (HO.out.ext hE1)
 replace x0:=hE1.cell x0
 replace x1:=hE1.cell x1
 replace x2:=hE1.cell x2
 clear Hck hX hE1
 obtain ⟨Hr6,He6,Hg6⟩:=set4 e1 (by have:=Hb0.out; omega) HO.out (.slice none 0 0) (.slice none 0 0) (.slice none 0 0) (.slice none 0 0)
 have r0:=Hr6.cell (j:=0) (by simp)
 have r1:=Hr6.cell (j:=1) (by simp)
 have r2:=Hr6.cell (j:=2) (by simp)
 have r3:=Hr6.cell (j:=3) (by simp)
 simp only [List.getElem_cons_zero,List.getElem_cons_succ] at r0 r1 r2 r3
 have f0:=(HO.out).frozen 0
 have f1:=(HO.out).frozen 1
 have f2:=(HO.out).frozen 2
 have f3:=(HO.out).frozen 3
 have m0:=(HO.out).cell (j:=0) (by simp)
 have m1:=(HO.out).cell (j:=1) (by simp)
 have m2:=(HO.out).cell (j:=2) (by simp)
 have m3:=(HO.out).cell (j:=3) (by simp)
 simp only [List.getElem_cons_zero,List.getElem_cons_succ] at m0 m1 m2 m3
 have Hres:=Lib.hid (show FpSz w (.returned (.tuple #[tuZ,.int .i64 5])) _ from ⟨rfl,He6⟩)
 clear Hr6 He6 Hg6 HO
 go_wp2_with fail
 refine bodyPost_ret (v := .tuple #[tuZ,.int .i64 5]) (by simp [results,Tryz.results40,go_sem,r0,r1,r2,r3]) rfl Hres.out
set_option maxHeartbeats 16000000 in
theorem tuFrom_any {w:World} {P:List Int} {C M:Mx} {sp:Option Addr} {cp:Nat} {sc:Option Addr} {lc cc:Nat} {sm:Option Addr} {lm cm:Nat} {sz:Option Addr} {cz:Nat} {L:List (List Rat)} (h:TmV w P C M M sp cp sc lc cc sm lm cm) (hs:GnR w (.slice sz L.length cz) L) (hl:L.length=P.length) (hcl : ∀ l∈L,l.length=P.length) (hsh : ∀ l∈L,ShQ l) (hL:Laid w) :
  Calls Tryz.prog 40 #[tmS P sp cp sc lc cc sm lm cm,.slice sz L.length cz] w (FpPost w P C M L):=by
 have hp4:=h.ok.p4
 have hp0:=h.ok.p0
 have hck:=fun W (hW:Ext w W)=>tCheck_any (h.ext hW) (hL.ext hW)
 rw [tmE_same] at hck
 have Hck:=Lib.hid hck
 have hal:=Lib.hid (fun W (hW:Ext w W)=>szall_any (pa:=sp) (np:=P.length) (cp:=cp) (fun W2 h2=>(h.ext hW).pchk W2 h2) (hs.ext hW) hcl hsh (by omega) (by omega) (hL.ext hW))
 have Hse:=Lib.hid (fun W (hW:Ext w W)=>gSection_ok (h.ext hW) (hL.ext hW))
 have Hcb:=Lib.hid (fun W fv (x:List Int) (hW:Ext w W) (hx:x.length=P.length) (hb : ∀ z∈x,-1000000000≤z∧z≤1000000000) (hfv:SzR W fv (nbL x))=>combine_any (pa:=sp) (np:=P.length) (cp:=cp) (hs.ext hW) hfv hcl (by rw [nbL_length,hx,hl]; exact Nat.le_refl _) (fun s hs=>shQ_nd (hsh s hs) (by omega)) (nbL_nd hb (by omega)) (by omega) (by omega) (hL.ext hW))
 have Hnb:=Lib.hid (fun W v (x:List Int) (hW:Ext w W) (hv:RowR W v x) (hx:x.length=P.length) (hb : ∀ z∈x,-1000000000≤z∧z≤1000000000)=>numbers_any hv (by omega) (fun z hz=>by unfold I64; have:=hb z hz; omega) (hL.ext hW))
 obtain ⟨psC,hIC⟩:=h.ok.kC.1
 obtain ⟨psM,hIM⟩:=h.ok.kM.1
 have hlC:=isH_len hIC
 have hlM:=isH_len hIM
 have HCr:=Lib.hid (fun (c:List Int) (hc:c∈C)=>show c.length=P.length ∧ ∀ z∈c,-1000000000≤z∧z≤1000000000 from ⟨hIC.rect c hc,fun z hz=>by have:=h.ok.bC c hc z hz; omega⟩)
 have hcln:=h.hC.len
 subst hcln
 obtain ⟨sc',gcm,ocm,ccm,vc,ec,hcc,hvlc,hSc,hrc⟩:=h.hC
 injection ec with r1 r2 r3
 clear r2
 subst r1 r3
 have HVc:=Lib.hid hvlc
 have HSc:=Lib.hid hSc
 have HRc:=Lib.hid hrc
 have Hm4:=Lib.hid h.m4
 have Hmd:=Lib.hid (fun W S va vl vk (hW:Ext w W) (hS:SecOK P.length C M S) (hv:GnR W (.slice va vl vk) (frG P.length L S))=>made_any (h.ext hW) hv (by rw [frG_length]; exact hS.len) (fun l hl=>by
  obtain ⟨s,_,rfl⟩:=List.mem_map.1 hl
  simp) (fun l hl2=>by
  obtain ⟨s,hs2,rfl⟩:=List.mem_map.1 hl2
  obtain ⟨j,hj,rfl⟩:=List.getElem_of_mem hs2
  exact cmb_nd (E:=30) (F:=10) (fun s hs=>shQ_nd (hsh s hs) (by omega)) (nbL_nd (hS.row j hj).2.2.2 (by omega)) (by omega) (by omega) (by rw [hl]; omega)) (hL.ext hW))
 have HO:=own4 (w.alloc (.cells #[.slice sp P.length cp,.slice sc C.length cc,.slice sm lm cm] 34)) 67 (.slice none 0 0) (.slice none 0 0) (.slice none 0 0) (.slice none 0 0)
 rw [show (w.alloc (.cells #[.slice sp P.length cp,.slice sc C.length cc,.slice sm lm cm] 34)).heap.size=w.heap.size+1 by simp] at HO
 have hVs:((w.alloc (.cells #[.slice sp P.length cp,.slice sc C.length cc,.slice sm lm cm] 34)).alloc (.cells #[.slice none 0 0,.slice none 0 0,.slice none 0 0,.slice none 0 0] 67)).heap.size=w.heap.size+1+1:=by simp
 have hX:=((Ext.refl w).alloc (.cells #[.slice sp P.length cp,.slice sc C.length cc,.slice sm lm cm] 34)).alloc (.cells #[.slice none 0 0,.slice none 0 0,.slice none 0 0,.slice none 0 0] 67)
 have x0:((w.alloc (.cells #[.slice sp P.length cp,.slice sc C.length cc,.slice sm lm cm] 34)).alloc (.cells #[.slice none 0 0,.slice none 0 0,.slice none 0 0,.slice none 0 0] 67)).cell? ⟨w.heap.size,0,none⟩=some (.slice sp P.length cp):=by go_simp
 have x1:((w.alloc (.cells #[.slice sp P.length cp,.slice sc C.length cc,.slice sm lm cm] 34)).alloc (.cells #[.slice none 0 0,.slice none 0 0,.slice none 0 0,.slice none 0 0] 67)).cell? ⟨w.heap.size,1,none⟩=some (.slice sc C.length cc):=by go_simp
 have x2:((w.alloc (.cells #[.slice sp P.length cp,.slice sc C.length cc,.slice sm lm cm] 34)).alloc (.cells #[.slice none 0 0,.slice none 0 0,.slice none 0 0,.slice none 0 0] 67)).cell? ⟨w.heap.size,2,none⟩=some (.slice sm lm cm):=by go_simp
 obtain ⟨nz,hnz⟩ : ∃ nz,nz=L.length:=⟨_,rfl⟩
 rw [← hnz] at hal Hcb ⊢
 have hnP:nz=P.length:=by omega
 subst hnP
 have Hl:=Lib.hid hl
 have hC4:C.length≤4:=by omega
 clear h hL hck hs hl hcl hsh hIC hIM hlC hlM hcc hvlc hSc hrc hnz
 go_enter Tryz.func40,Tryz.ntmps40
 go_wp2_with fail
 generalize ((w.alloc (.cells #[.slice sp P.length cp,.slice sc C.length cc,.slice sm lm cm] 34)).alloc (.cells #[.slice none 0 0,.slice none 0 0,.slice none 0 0,.slice none 0 0] 67))=V at *
 have HO:=Lib.hid HO
 have HVs:=Lib.hid hVs
 obtain ⟨b0,hb0⟩ : ∃ b,b=w.heap.size:=⟨_,rfl⟩
 have Hb0:=Lib.hid hb0
 rw [← hb0] at x0 x1 x2 HO HVs ⊢
 clear hb0 hVs
 refine (Hck.out _ hX).mono ?_
 rintro e X1 ⟨rfl,hE1⟩
 have e1:=hX.trans hE1
 replace HO:=Lib.hid (HO.out.ext hE1)
 replace x0:=hE1.cell x0
 replace x1:=hE1.cell x1
 replace x2:=hE1.cell x2
 have HVs:=Lib.hid (show b0+1+1≤X1.heap.size by have:=HVs.out; have:=hE1.size; omega)
 clear Hck hX hE1
 go_wp2_with fail
 refine (hal.out _ e1).mono ?_
 rintro e X2 ⟨rfl,hE2⟩
 have e2:=e1.trans hE2
 replace HO:=Lib.hid (HO.out.ext hE2)
 replace x0:=hE2.cell x0
 replace x1:=hE2.cell x1
 replace x2:=hE2.cell x2
 have HVs:=Lib.hid (show b0+1+1≤X2.heap.size by have:=HVs.out; have:=hE2.size; omega)
 clear hal hE2 e1
 go_wp2_with fail
 go_loopw [40] (fun iv wr => ∃ i:Nat,i≤C.length∧iv = .int .i64 i∧Hid (∀ j (h:j<C.length),j<i → ∀ r∈cmbQ L (nbL C[j]) P.length,r.num=0)∧Ext X2 wr) (fun iv _=>C.length-(intOf iv).toNat)
 case atStart=>exact ⟨0,by omega,by go_num,Lib.hid (fun j _ h=>by omega),Ext.refl _⟩
 case round =>
  obtain ⟨i,hi,rfl,hZ,hE⟩:=hrel
  generalize wr=Z at *
  replace HO:=Lib.hid (HO.out.ext hE)
  replace x0:=hE.cell x0
  replace x1:=hE.cell x1
  replace x2:=hE.cell x2
  have eZ:=e2.trans hE
  have HVz:=Lib.hid (show b0+1+1≤Z.heap.size by have:=HVs.out; have:=hE.size; omega)
  by_cases hlt:i<C.length
  ·have hii:(i:Int)<(C.length:Int):=by omega
   have hiv:i<vc.length:=by rw [HVc.out]; exact hlt
   obtain rfl:=HSc.out.addr (by omega)
   have c0:=eZ.cell (HSc.out.cell i _ (List.getElem?_eq_getElem hiv))
   obtain ⟨q1,q2⟩:=HCr.out C[i] (List.getElem_mem hlt)
   have hrow:=(HRc.out i hlt hiv).ext eZ
   obtain ⟨ra,rg,ro,rk,er,hr1,hr2⟩:=id hrow
   rw [er] at c0 hrow
   rw [q1] at c0 hrow
   have Hrow:=Lib.hid hrow
   have Hq1:=Lib.hid q1
   have Hq2:=Lib.hid q2
   have HZn:=Lib.hid (fun (h : ∀ r∈cmbQ L (nbL C[i]) P.length,r.num=0) j (hj:j<C.length) (h2:j<i+1)=>show ∀ r∈cmbQ L (nbL C[j]) P.length,r.num=0 by
    rcases Nat.lt_or_ge j i with h3 | h3
    ·exact hZ.out j hj h3
    ·obtain rfl:j=i:=by omega
     exact h)
   have HPt:=Lib.hid (fun (W:World) (hW:Ext w W) (h : ∃ r∈cmbQ L (nbL C[i]) P.length,r.num≠0)=>show FpPost w P C M L (.returned (.tuple #[tuZ,.int .i64 26])) W from .inl ⟨⟨C[i],List.getElem_mem hlt,h⟩,rfl,hW⟩)
   generalize C[i]=c at *
   clear q1 q2 er hr1 hr2 hrow hZ hlt hiv Hse Hmd
   go_wp2_with fail
   have d0:Ext Z Z.drew:=(Ext.refl Z).drew
   refine wp_region_held_tail (S:=fun W=>Ext Z W) 6 (by kernel_rfl) (by simp) ?_
   intro inv
   generalize Z.drew=Z1 at *
   refine wpAnyLH_take (i:=0) (v := .pointer (some ⟨b0,0,none⟩)) rfl (by kernel_rfl) (fun _ _ _ h=>h) (.inl ⟨by rfl,fun W hW=>by go_simp⟩) d0 inv ?_
   intro inv
   go_simp
   refine wpAnyLH_take (i:=1) (v := .slice sp P.length cp) rfl (by kernel_rfl) (fun _ _ _ h=>h) (.inl ⟨by rfl,fun W hW=>by have z7:=hW.cell x0; go_simp⟩) d0 inv ?_
   intro inv
   go_simp
   refine wpAnyLH_take (i:=2) (v := .slice sz P.length cz) rfl (by kernel_rfl) (fun _ _ _ h=>h) (.inl ⟨by rfl,fun W hW=>by go_simp⟩) d0 inv ?_
   intro inv
   go_simp
   refine wpAnyLH_take (i:=3) (v := .slice ra P.length rk) rfl (by kernel_rfl) (fun _ _ _ h=>h) (.inl ⟨by rfl,fun W hW=>by go_simp⟩) d0 inv ?_
   intro inv
   go_simp
   refine wpAnyLH_oneI (i:=4) rfl (by kernel_rfl) inv (fun inv K0 hK0 => ?_)
   go_simp
   refine (Hnb.out _ _ _ (eZ.trans d0) (Hrow.out.ext d0) Hq1.out Hq2.out).mono ?_
   rintro e Z2 ⟨⟨u,rfl,hU⟩,hE2⟩
   have d2:=d0.trans hE2
   have HU:=Lib.hid hU.read
   obtain ⟨ua,ul,uc,rfl⟩:=hU.slice
   refine hK0 _ _ d2 ?_
   clear hK0 hU hE2
   refine wpAnyLH_oneI (i:=5) rfl (by kernel_rfl) inv (fun inv K0 hK0 => ?_)
   go_simp
   refine (Hcb.out _ _ _ (eZ.trans d2) Hq1.out Hq2.out HU.out).mono ?_
   rintro e Z3 ⟨⟨gq,rfl,_,hQ⟩,hE3⟩
   have d3:=d2.trans hE3
   have HQ:=Lib.hid (show SzR Z3 (slv gq P.length P.length) (cmbQ L (nbL c) P.length) from by
    have:=hQ.val.read
    rwa [cmbQ_length] at this)
   refine hK0 _ _ d3 ?_
   clear hK0 hQ hE3
   refine wpAnyLH_end (by kernel_rfl) ?_
   have e3:=eZ.trans d3
   have hE3:=hE.trans d3
   replace HO:=Lib.hid (HO.out.ext d3)
   replace x0:=d3.cell x0
   replace x1:=d3.cell x1
   replace x2:=d3.cell x2
   have Hhs:=Lib.hid (has_fp HQ.out (by rw [cmbQ_length]; omega))
   clear inv d0 d2 d3 c0 hE eZ
   go_wp2_with fail
   refine Hhs.out.mono ?_
   rintro e Z4 ⟨(⟨rfl,hz⟩ | ⟨rfl,hz⟩),hE4⟩
   ·have HZ2:=Lib.hid (HZn.out hz)
    clear hz HZn HPt Hhs HQ HU
    go_wp2_with fail
    go_roundw
    case rel=>exact ⟨i+1,by omega,by go_num,HZ2,hE3.trans hE4⟩
    case measure=>simp [intOf] <;> omega
   ·have Hz:=Lib.hid hz
    have e4:=e3.trans hE4
    replace HO:=Lib.hid (HO.out.ext hE4)
    clear hz HZn Hhs HQ HU
    obtain ⟨Hr6,He6,Hg6⟩:=set4 e4 (by have:=Hb0.out; omega) HO.out (.slice none 0 0) (.slice none 0 0) (.slice none 0 0) (.slice none 0 0)
    have r0:=Hr6.cell (j:=0) (by simp)
    have r1:=Hr6.cell (j:=1) (by simp)
    have r2:=Hr6.cell (j:=2) (by simp)
    have r3:=Hr6.cell (j:=3) (by simp)
    simp only [List.getElem_cons_zero,List.getElem_cons_succ] at r0 r1 r2 r3
    have f0:=(HO.out).frozen 0
    have f1:=(HO.out).frozen 1
    have f2:=(HO.out).frozen 2
    have f3:=(HO.out).frozen 3
    have m0:=(HO.out).cell (j:=0) (by simp)
    have m1:=(HO.out).cell (j:=1) (by simp)
    have m2:=(HO.out).cell (j:=2) (by simp)
    have m3:=(HO.out).cell (j:=3) (by simp)
    simp only [List.getElem_cons_zero,List.getElem_cons_succ] at m0 m1 m2 m3
    have Hres:=Lib.hid (HPt.out _ He6 Hz.out)
    clear Hr6 He6 Hg6 HO HPt Hz
    go_wp2_with fail
    refine bodyPost_ret (v := .tuple #[tuZ,.int .i64 26]) (by simp [results,Tryz.results40,go_sem,r0,r1,r2,r3]) rfl Hres.out
  ·obtain rfl:i=C.length:=by omega
   have hii : ¬ (C.length:Int)<(C.length:Int):=by omega
   have HZa:=Lib.hid (show ∀ c∈C,∀ r∈cmbQ L (nbL c) P.length,r.num=0 from fun c hc=>by
    obtain ⟨j,hj,rfl⟩:=List.getElem_of_mem hc
    exact hZ.out j hj hj)
   have hse:=Lib.hid (Hse.out _ eZ)
   clear hZ hlt Hse HRc HVc HSc HCr hi hE
   go_wp2_with fail
   refine hse.out.mono ?_
   rintro e X3 ⟨hE3,sv,S,rfl,hSv,hSec⟩
   have e3:=eZ.trans hE3
   replace HO:=Lib.hid (HO.out.ext hE3)
   replace x0:=hE3.cell x0
   replace x1:=hE3.cell x1
   replace x2:=hE3.cell x2
   have HV3:=Lib.hid (show b0+1+1≤X3.heap.size by have:=HVz.out; have:=hE3.size; omega)
   have HSec:=Lib.hid hSec
   have hSl:=hSec.len
   have hS4:S.length≤4:=by rw [hSl]; exact Hm4.out
   have hmt:=hSv.mat
   have Hres:=Lib.hid (fun (e:Ending) W (hm:MdPost w P C M (frG P.length L S) e W)=>show FpPost w P C M L e W from .inr ⟨HZa.out,S,HSec.out,hm⟩)
   have Hmd2:=Lib.hid (fun W va vl vk (hW:Ext w W) (hv:GnR W (.slice va vl vk) (frG P.length L S))=>Hmd.out W S va vl vk hW HSec.out hv)
   generalize FpPost w P C M L=POST at *
   obtain ⟨ssv,gs,gos,csv,vs,rfl,hsc,hvs,hSs,hrs⟩:=hmt
   have HVS:=Lib.hid hvs
   have HSS:=Lib.hid hSs
   have HRS:=Lib.hid hrs
   have HY4:=own4 X3 67 (.slice sp P.length cp) (.slice sc C.length cc) (.slice sm lm cm) (.slice none 0 0)
   have eA:=(Ext.refl X3).alloc (.cells #[.slice sp P.length cp,.slice sc C.length cc,.slice sm lm cm,.slice none 0 0] 67)
   have hYs:(X3.alloc (.cells #[.slice sp P.length cp,.slice sc C.length cc,.slice sm lm cm,.slice none 0 0] 67)).heap.size=X3.heap.size+1:=by simp
   have y0:=eA.cell x0
   have y1:=eA.cell x1
   have y2:=eA.cell x2
   clear hSv hSec hsc hvs hSs hrs hse hSl Hmd HZa eZ
   go_wp2_with fail
   clear x0 x1 x2
   generalize (X3.alloc (.cells #[.slice sp P.length cp,.slice sc C.length cc,.slice sm lm cm,.slice none 0 0] 67))=Y at *
   have HY4:=Lib.hid HY4
   have HYs:=Lib.hid hYs
   obtain ⟨b3,hb3⟩ : ∃ b,b=X3.heap.size:=⟨_,rfl⟩
   have Hb3:=Lib.hid (show b0+1+1≤b3 by have:=HV3.out; omega)
   have Hx3:=Lib.hid (show X3.heap.size≤b3 by omega)
   rw [← hb3] at HY4 HYs ⊢
   have eY:=e3.trans eA
   replace HO:=Lib.hid (HO.out.ext eA)
   have eA3:=eA
   clear hb3 hYs e2 HVs HVz HV3
   go_loopw [67] (fun iv wr => ∃ (i:Nat) (gv:Value),i≤S.length∧iv = .int .i64 i∧Hid (OwnV 67 b3 wr b3 4 [.slice sp P.length cp,.slice sc C.length cc,.slice sm lm cm,gv])∧Hid (GnO (b3+1) wr gv ((frG P.length L S).take i))∧Hid (Below b3 Y wr)) (fun iv _=>S.length-(intOf iv).toNat)
   case atStart=>exact ⟨0,_,by omega,by go_num,HY4,Lib.hid (GnO.nil _ _),Lib.hid (Below.refl _ _)⟩
   case round =>
    obtain ⟨i,gv,hi,rfl,HO4,HGN,HB4⟩:=hrel
    generalize wr=Z9 at *
    have hZs2:b3+1≤Z9.heap.size:=by have:=HYs.out; have:=HB4.out.size; omega
    have HZs:=Lib.hid hZs2
    have eZ:=Lib.hid (show Ext w Z9 from Below.trans eY (HB4.out.mono (by have:=Hb0.out; have:=Hb3.out; omega)))
    have e3Z:=Lib.hid (show Ext X3 Z9 from Below.trans eA3 (HB4.out.mono Hx3.out))
    have HO3:=HO4.out.cell (j:=3) (by simp)
    simp only [List.getElem_cons_zero,List.getElem_cons_succ] at HO3
    have z0:Z9.cell? ⟨b0,0,none⟩=some (.slice sp P.length cp):=by rw [Below.cell HB4.out (show b0<b3 by have:=Hb3.out; omega)]; exact y0
    clear hZs2
    by_cases hlt:i<S.length
    ·have hii:(i:Int)<(S.length:Int):=by omega
     have hiv:i<vs.length:=by rw [HVS.out]; exact hlt
     obtain rfl:=HSS.out.addr (by omega)
     have c0:=e3Z.out.cell (HSS.out.cell i _ (List.getElem?_eq_getElem hiv))
     obtain ⟨q1,q3,q4,q2⟩:=HSec.out.row i hlt
     have hrow:=(HRS.out i hlt hiv).ext e3Z.out
     obtain ⟨ra,rg,ro,rk,er,hr1,hr2⟩:=id hrow
     rw [er] at c0 hrow
     rw [q1] at c0 hrow
     have Hrow:=Lib.hid hrow
     have Hq1:=Lib.hid q1
     have Hq2:=Lib.hid q2
     have hsk:=Lib.hid (frG_snoc (n:=P.length) (L:=L) hlt)
     obtain ⟨x,hx⟩ : ∃ x,x=S[i]:=⟨_,rfl⟩
     rw [← hx] at Hrow Hq1 Hq2 hsk
     obtain ⟨ga,gc,rfl⟩:=HGN.out.slice
     have Htl:=Lib.hid (show ((frG P.length L S).take i).length=i by rw [List.length_take,frG_length]; omega)
     rw [Htl.out] at HO3 HO4 HGN
     clear q1 q2 q3 q4 er hr1 hr2 hrow hx hiv hlt Hres Hmd2
     go_wp2_with fail
     have d0E:Ext Z9 Z9.drew:=(Ext.refl Z9).drew
     have d0:Below (b3+1) Z9 Z9.drew:=Below.mono d0E HZs.out
     refine wp_region_held_tail (S:=fun W=>Below (b3+1) Z9 W) 10 (by kernel_rfl) (by simp) ?_
     intro inv
     generalize Z9.drew=Z1 at *
     refine wpAnyLH_take (i:=0) (v := .pointer (some ⟨b3,3,none⟩)) rfl (by kernel_rfl) (fun _ _ _ h=>h) (.inl ⟨by rfl,fun W hW=>by go_simp⟩) d0 inv ?_
     intro inv
     go_simp
     refine wpAnyLH_take (i:=1) (v := .slice ga i gc) rfl (by kernel_rfl) (fun _ _ _ h=>h) (.inl ⟨by rfl,fun W hW=>by have q0:=(Below.cell hW (show b3<b3+1 by have:=Hb3.out; omega)).trans HO3; go_simp⟩) d0 inv ?_
     intro inv
     go_simp
     refine wpAnyLH_take (i:=2) (v := .pointer (some ⟨b0,0,none⟩)) rfl (by kernel_rfl) (fun _ _ _ h=>h) (.inl ⟨by rfl,fun W hW=>by go_simp⟩) d0 inv ?_
     intro inv
     go_simp
     refine wpAnyLH_take (i:=3) (v := .slice sp P.length cp) rfl (by kernel_rfl) (fun _ _ _ h=>h) (.inl ⟨by rfl,fun W hW=>by have q0:=(Below.cell hW (show b0<b3+1 by have:=Hb3.out; omega)).trans z0; go_simp⟩) d0 inv ?_
     intro inv
     go_simp
     refine wpAnyLH_take (i:=4) (v := .slice sz P.length cz) rfl (by kernel_rfl) (fun _ _ _ h=>h) (.inl ⟨by rfl,fun W hW=>by go_simp⟩) d0 inv ?_
     intro inv
     go_simp
     refine wpAnyLH_take (i:=5) (v := .slice ra P.length rk) rfl (by kernel_rfl) (fun _ _ _ h=>h) (.inl ⟨by rfl,fun W hW=>by go_simp⟩) d0 inv ?_
     intro inv
     go_simp
     refine wpAnyLH_oneI (i:=6) rfl (by kernel_rfl) inv (fun inv K0 hK0 => ?_)
     go_simp
     refine (Hnb.out _ _ _ (eZ.out.trans d0E) (Hrow.out.ext d0E) Hq1.out Hq2.out).mono ?_
     rintro e Z2 ⟨⟨u,rfl,hU⟩,hE2⟩
     have d2E:=d0E.trans hE2
     have HU:=Lib.hid hU.read
     obtain ⟨ua,ul,uc,rfl⟩:=hU.slice
     refine hK0 _ _ (Below.mono d2E HZs.out) ?_
     clear hK0 hU hE2
     refine wpAnyLH_oneI (i:=7) rfl (by kernel_rfl) inv (fun inv K0 hK0 => ?_)
     go_simp
     refine (Hcb.out _ _ _ (eZ.out.trans d2E) Hq1.out Hq2.out HU.out).mono ?_
     rintro e Z3 ⟨⟨gq,rfl,_,hQ⟩,hE3'⟩
     have d3E:=d2E.trans hE3'
     have Hv:=Lib.hid (show SzV (b3+1) Z3 (slv gq P.length P.length) (cmbQ L (nbL x) P.length) by
      have:=hQ.val
      rw [cmbQ_length] at this
      exact this.mono (by have:=d2E.size; have:=HZs.out; omega))
     refine hK0 _ _ (Below.mono d3E HZs.out) ?_
     clear hK0 hQ
     refine wpAnyLH_oneI (i:=8) rfl (by kernel_rfl) inv (fun inv K0 hK0 => ?_)
     go_simp
     have d4E:=d3E.alloc (.cells #[slv gq P.length P.length] 60)
     have d4:Below (b3+1) Z9 (Z3.alloc (.cells #[slv gq P.length P.length] 60)):=Below.mono d4E HZs.out
     refine hK0 _ _ d4 ?_
     clear hK0
     refine wpAnyLH_oneI (i:=9) rfl (by kernel_rfl) inv (fun inv K0 hK0 => ?_)
     refine app_gn_step (by rfl) _ _ 65 Tryz.underlying65 (by rfl) (by rfl) (HGN.out.ext d4E) (b:=Z3.heap.size) (by rfl) (u:=slv gq P.length P.length) (r:=cmbQ L (nbL x) P.length) (by go_simp) (Hv.out.ext ((Ext.refl _).alloc _)) (by rw [Htl.out]; omega) (by have:=d4E.size; have:=HZs.out; omega) ?_
     intro g9 c9 W9 hO9 hB9 hG9
     rw [Htl.out] at hO9 ⊢
     rw [hsk.out] at hO9
     have d9:=d4.trans hB9
     refine hK0 _ _ d9 ?_
     clear hK0
     refine wpAnyLH_end (by kernel_rfl) ?_
     have HO9:=Lib.hid (HO4.out.below d9 (by omega))
     have e0:=HO9.out.cell (j:=3) (by simp)
     simp only [List.getElem_cons_zero,List.getElem_cons_succ] at e0
     have f0:=HO9.out.frozen 3
     obtain ⟨h4,g4⟩:=OwnV.set HO9.out 3 (slv g9 (i+1) c9)
     have H4:=Lib.hid h4
     have G4:=Lib.hid (GnO.kept hO9 g4 (by omega))
     have B4:=Lib.hid (Below.grown (HB4.out.trans (Below.mono d9 (by omega))) g4 (by have:=(HB4.out.trans (Below.mono d9 (by omega))).size; have:=HYs.out; omega) (fun q hq=>by injection hq with hq; omega))
     clear hO9 hB9 hG9 h4 g4 inv d0 d0E d2E d3E d4 d4E hE3' HO9 HO3 z0 Hcb Hnb c0
     go_wp2_with fail
     go_roundw
     case rel=>exact ⟨i+1,_,by omega,by go_num,H4,G4,B4⟩
     case measure=>simp [intOf] <;> omega
    ·obtain rfl:i=S.length:=by omega
     have hii : ¬ (S.length:Int)<(S.length:Int):=by omega
     have o0:=HO4.out.cell (j:=0) (by simp)
     have o1:=HO4.out.cell (j:=1) (by simp)
     have o2:=HO4.out.cell (j:=2) (by simp)
     have o3:=HO3
     simp only [List.getElem_cons_zero,List.getElem_cons_succ] at o0 o1 o2
     have HOZ:=Lib.hid (HO.out.below HB4.out (by have:=Hb3.out; omega))
     obtain ⟨ga,gc,rfl⟩:=HGN.out.slice
     have Htl:=Lib.hid (show ((frG P.length L S).take S.length)=frG P.length L S by rw [List.take_of_length_le (by simp)])
     rw [Htl.out] at HGN o3
     rw [frG_length] at o3
     have hm:=Lib.hid (Hmd2.out Z9 _ _ _ eZ.out HGN.out.read)
     rw [frG_length] at hm
     clear HO3 z0 Hmd2 hlt HO4 HB4
     go_wp2_with fail
     refine hm.out.mono ?_
     rintro e Z3 ⟨hE3,(⟨hall,t,rfl,hTR⟩ | ⟨hno,rfl⟩)⟩
     ·obtain ⟨tsp,tcp,tsc,tlc,tcc,tsm,tlm,tcm,tsg,tlg,tcg,rfl,hTV⟩:=hTR
      have e3':=eZ.out.trans hE3
      have H2:=HOZ.out.ext hE3
      obtain ⟨Hr6,He6,Hg6⟩:=set4 e3' (by have:=Hb0.out; omega) H2 (.slice tsp P.length tcp) (.slice tsc tlc tcc) (.slice tsm tlm tcm) (.slice tsg tlg tcg)
      have r0:=Hr6.cell (j:=0) (by simp)
      have r1:=Hr6.cell (j:=1) (by simp)
      have r2:=Hr6.cell (j:=2) (by simp)
      have r3:=Hr6.cell (j:=3) (by simp)
      simp only [List.getElem_cons_zero,List.getElem_cons_succ] at r0 r1 r2 r3
      have f0:=(H2).frozen 0
      have f1:=(H2).frozen 1
      have f2:=(H2).frozen 2
      have f3:=(H2).frozen 3
      have m0:=(H2).cell (j:=0) (by simp)
      have m1:=(H2).cell (j:=1) (by simp)
      have m2:=(H2).cell (j:=2) (by simp)
      have m3:=(H2).cell (j:=3) (by simp)
      simp only [List.getElem_cons_zero,List.getElem_cons_succ] at m0 m1 m2 m3
      have Hres2:=Lib.hid (Hres.out (.returned (.tuple #[tuS P tsp tcp tsc tlc tcc tsm tlm tcm tsg tlg tcg,.int .i64 0])) _ ⟨He6,.inl ⟨hall,_,rfl,_,_,_,_,_,_,_,_,_,_,_,rfl,tuV_keep hTV H2 Hg6⟩⟩)
      clear Hr6 He6 Hg6 H2 HOZ hTV Hres
      replace Hres:=Hres2
      clear Hres2
      go_wp2_with fail
      refine bodyPost_ret (v := .tuple #[tuS P tsp tcp tsc tlc tcc tsm tlm tcm tsg tlg tcg,.int .i64 0]) (by simp [results,Tryz.results40,go_sem,r0,r1,r2,r3]) rfl Hres.out
     ·have e3':=eZ.out.trans hE3
      have H2:=HOZ.out.ext hE3
      obtain ⟨Hr6,He6,Hg6⟩:=set4 e3' (by have:=Hb0.out; omega) H2 (.slice none 0 0) (.slice none 0 0) (.slice none 0 0) (.slice none 0 0)
      have r0:=Hr6.cell (j:=0) (by simp)
      have r1:=Hr6.cell (j:=1) (by simp)
      have r2:=Hr6.cell (j:=2) (by simp)
      have r3:=Hr6.cell (j:=3) (by simp)
      simp only [List.getElem_cons_zero,List.getElem_cons_succ] at r0 r1 r2 r3
      have f0:=(H2).frozen 0
      have f1:=(H2).frozen 1
      have f2:=(H2).frozen 2
      have f3:=(H2).frozen 3
      have m0:=(H2).cell (j:=0) (by simp)
      have m1:=(H2).cell (j:=1) (by simp)
      have m2:=(H2).cell (j:=2) (by simp)
      have m3:=(H2).cell (j:=3) (by simp)
      simp only [List.getElem_cons_zero,List.getElem_cons_succ] at m0 m1 m2 m3
      have Hres2:=Lib.hid (Hres.out (.returned (.tuple #[tuZ,.int .i64 4])) _ ⟨He6,.inr ⟨hno,rfl⟩⟩)
      clear Hr6 He6 Hg6 H2 HOZ Hres
      replace Hres:=Hres2
      clear Hres2
      go_wp2_with fail
      refine bodyPost_ret (v := .tuple #[tuZ,.int .i64 4]) (by simp [results,Tryz.results40,go_sem,r0,r1,r2,r3]) rfl Hres.out
theorem list6_getD_ext {a b:List Int} (hl:a.length=b.length) (h : ∀ j,j<a.length→a.getD j 0=b.getD j 0):a=b:=by
 apply List.ext_getElem hl
 intro i h1 h2
 have:=h i h1
 rwa [getD_get h1,getD_get h2] at this
theorem mx_getD_ext {a b:Mx} (hl:a.length=b.length) (h : ∀ j,j<a.length→a.getD j []=b.getD j []):a=b:=by
 apply List.ext_getElem hl
 intro i h1 h2
 have:=h i h1
 rwa [getD_get h1,getD_get h2] at this
set_option maxHeartbeats 1000000 in
theorem eqRows6_any {w:World} {va vb:Value} {a b:List Int} (hA:RowR w va a) (hB:RowR w vb b) (hbig:a.length≤1000000) :
  Calls Tryz.prog 164 #[va,vb] w fun e w'=>e = .returned (.bool (decide (a=b)))∧Ext w w':=by
 obtain ⟨sa,ga,oa,ca,rfl,hca,hSa⟩:=hA
 obtain ⟨sb,gb,ob,cb,rfl,hcb,hSb⟩:=hB
 by_cases hl:a.length=b.length
 ·obtain ⟨n,hn⟩ : ∃ n,n=a.length:=⟨_,rfl⟩
  rw [← hl]
  rw [← hn] at hbig ⊢
  have HA:=Lib.hid hSa
  have HB:=Lib.hid hSb
  have Hn:=Lib.hid hn
  have Hm:=Lib.hid (hn.trans hl)
  clear hSa hSb hl hn hca hcb
  go_enter Tryz.func164,Tryz.ntmps164
  go_wp2_with fail
  go_loopw [5] (fun idx wr => ∃ i:Nat,i≤n∧idx = .int .i64 i∧Hid (∀ j,j<i→a.getD j 0=b.getD j 0)∧Ext w wr) (fun idx _=>n-(intOf idx).toNat)
  case atStart=>exact ⟨0,by omega,by go_num,Lib.hid (fun j h=>by omega),Ext.refl _⟩
  case round =>
   obtain ⟨i,hi,rfl,Hz,hE⟩:=hrel
   generalize wr=X at *
   by_cases hlt:i<n
   ·have hii:(i:Int)<(n:Int):=by omega
    have c1:=(HA.out.ext hE).cell i (.int .i64 (a[i]'(by rw [← Hn.out]; exact hlt))) (is_get (by rw [← Hn.out]; exact hlt))
    have c2:=(HB.out.ext hE).cell i (.int .i64 (b[i]'(by rw [← Hm.out]; exact hlt))) (is_get (by rw [← Hm.out]; exact hlt))
    obtain rfl:=HA.out.addr (by rw [is_length, ← Hn.out]; omega)
    obtain rfl:=HB.out.addr (by rw [is_length, ← Hm.out]; omega)
    obtain ⟨x,hx⟩ : ∃ x,x=a[i]'(by rw [← Hn.out]; exact hlt):=⟨_,rfl⟩
    obtain ⟨y,hy⟩ : ∃ y,y=b[i]'(by rw [← Hm.out]; exact hlt):=⟨_,rfl⟩
    rw [← hx] at c1
    rw [← hy] at c2
    have Hx:=Lib.hid (show a.getD i 0=x by rw [hx,getD_get (by rw [← Hn.out]; exact hlt)])
    have Hy:=Lib.hid (show b.getD i 0=y by rw [hy,getD_get (by rw [← Hm.out]; exact hlt)])
    clear hx hy
    by_cases hxy:x=y
    ·subst hxy
     go_wp2_with fail
     go_quiet (fail)
     go_wp2_with fail
     go_roundw
     case rel=>exact ⟨i+1,by omega,by go_num,Lib.hid (fun j hj=>by
      by_cases e:j=i
      ·subst e; rw [Hx.out,Hy.out]
      ·exact Hz.out j (by omega)),hE.drewN _⟩
     case measure=>simp [intOf] <;> omega
    ·have hb1:(x==y)=false:=beq_eq_false_iff_ne.2 hxy
     have hb2:(x != y)=true:=by simp [bne,hb1]
     have Hne:=Lib.hid (show decide (a=b)=false from decide_eq_false (fun e=>hxy (by rw [← Hx.out, ← Hy.out,e])))
     go_wp2_with fail
     go_quiet (fail)
     go_wp2_with fail
     go_ret
     exact ⟨by rw [Hne.out]; rfl,hE.drewN _⟩
   ·have Heq:=Lib.hid (show decide (a=b)=true from decide_eq_true (list6_getD_ext (by rw [← Hn.out, ← Hm.out]) (fun j hj=>Hz.out j (by rw [← Hn.out] at hj; omega))))
    go_wp2_with fail
    go_ret
    exact ⟨by rw [Heq.out]; rfl,hE⟩
 ·have hne:decide (a=b)=false:=decide_eq_false (fun e=>hl (by rw [e]))
  rw [hne]
  have h1 : ¬ ((a.length:Int)=(b.length:Int)):=by omega
  have h2:((a.length:Int)==(b.length:Int))=false:=beq_eq_false_iff_ne.2 h1
  have h3:((a.length:Int) != (b.length:Int))=true:=by simp [bne,h2]
  clear hSa hSb hca hcb hne
  generalize a.length=n at *
  generalize b.length=m at *
  go_enter Tryz.func164,Tryz.ntmps164
  go_wp2_with fail
  go_ret
  exact ⟨rfl,Ext.refl _⟩
set_option maxHeartbeats 1000000 in
theorem equal6_any {w:World} {va vb:Value} {A B:Mx} (hA:MatR w va A) (hB:MatR w vb B) (hbig:A.length≤1000000) (hbr : ∀ r∈A,r.length≤1000000) :
  Calls Tryz.prog 165 #[va,vb] w fun e w'=>e = .returned (.bool (decide (A=B)))∧Ext w w':=by
 obtain ⟨sa,ga,oa,ca,va',rfl,hca,hvA,hSa,hrA⟩:=hA
 obtain ⟨sb,gb,ob,cb,vb',rfl,hcb,hvB,hSb,hrB⟩:=hB
 by_cases hl:A.length=B.length
 ·obtain ⟨n,hn⟩ : ∃ n,n=A.length:=⟨_,rfl⟩
  rw [← hl]
  rw [← hn] at hbig ⊢
  have HA:=Lib.hid hSa
  have HB:=Lib.hid hSb
  have HvA:=Lib.hid hvA
  have HvB:=Lib.hid hvB
  have HrA:=Lib.hid hrA
  have HrB:=Lib.hid hrB
  have Hn:=Lib.hid hn
  have Hm:=Lib.hid (hn.trans hl)
  clear hSa hSb hl hn hca hcb hvA hvB hrA hrB
  go_enter Tryz.func165,Tryz.ntmps165
  go_wp2_with fail
  go_loopw [5] (fun idx wr => ∃ i:Nat,i≤n∧idx = .int .i64 i∧Hid (∀ j,j<i→A.getD j []=B.getD j [])∧Ext w wr) (fun idx _=>n-(intOf idx).toNat)
  case atStart=>exact ⟨0,by omega,by go_num,Lib.hid (fun j h=>by omega),Ext.refl _⟩
  case round =>
   obtain ⟨i,hi,rfl,Hz,hE⟩:=hrel
   generalize wr=X at *
   by_cases hlt:i<n
   ·have hii:(i:Int)<(n:Int):=by omega
    have hiA:i<A.length:=by rw [← Hn.out]; exact hlt
    have hiB:i<B.length:=by rw [← Hm.out]; exact hlt
    obtain ⟨sx,bx,ox,cx,hrx,hcx,hSx⟩:=MatR.row HA.out HvA.out HrA.out hiA
    obtain ⟨sy,by',oy,cy,hry,hcy,hSy⟩:=MatR.row HB.out HvB.out HrB.out hiB
    obtain rfl:=HA.out.addr (by rw [HvA.out]; omega)
    obtain rfl:=HB.out.addr (by rw [HvB.out]; omega)
    have k1:=cell_regrown (hE.cell hrx)
    have k2:=cell_regrown (hE.cell hry)
    have hx1:RowR X (.slice sx A[i].length cx) A[i]:=⟨sx,bx,ox,cx,rfl,hcx,hSx.ext hE⟩
    have hy1:RowR X (.slice sy B[i].length cy) B[i]:=⟨sy,by',oy,cy,rfl,hcy,hSy.ext hE⟩
    obtain ⟨lx,hlx⟩ : ∃ l,l=A[i].length:=⟨_,rfl⟩
    obtain ⟨ly,hly⟩ : ∃ l,l=B[i].length:=⟨_,rfl⟩
    rw [← hlx] at k1 hx1
    rw [← hly] at k2 hy1
    clear hlx hly
    have hEQ:=Lib.hid (fun V (hV:Ext X V)=>eqRows6_any (w:=V) (hx1.ext hV) (hy1.ext hV) (hbr _ (List.getElem_mem hiA)))
    have HxA:=Lib.hid (show A.getD i []=A[i] from getD_get hiA [])
    have HxB:=Lib.hid (show B.getD i []=B[i] from getD_get hiB [])
    obtain ⟨q,hq⟩ : ∃ q,q=decide (A[i]=B[i]):=⟨_,rfl⟩
    rw [← hq] at hEQ
    have bE:=Lib.hid (quietC (w:=X) (fun V hV=>hEQ.out V hV))
    have Hq:=Lib.hid hq
    clear hrx hry hcx hcy hSx hSy hq hx1 hy1 hEQ
    cases q
    ·have Hne:=Lib.hid (show decide (A=B)=false from decide_eq_false (fun e=>by
      have:=Hq.out.symm
      rw [decide_eq_false_iff_not] at this
      exact this (by rw [← HxA.out, ← HxB.out,e])))
     clear Hq HxA HxB
     go_wp2_with fail
     refine wp_region_quiet_below (by kernel_rfl) (by kernel_rfl) ?_
     repeat (quiet_step (exact bE.out _ _))
     refine wpQuiet_nil ?_
     intro _ hw'
     obtain ⟨⟨dq,osq⟩,hw''⟩:=hw'
     subst hw''
     have hE2:=hE.trans (ext_regrown X dq osq)
     clear k1 k2 bE
     generalize hW6:grow (redrawn _ _) _=W6 at *
     clear hW6
     go_wp2_with fail
     go_ret
     exact ⟨by rw [Hne.out]; rfl,hE2⟩
    ·have Hok:=Lib.hid (show A.getD i []=B.getD i [] by rw [HxA.out,HxB.out]; exact of_decide_eq_true Hq.out.symm)
     clear Hq HxA HxB
     go_wp2_with fail
     refine wp_region_quiet_below (by kernel_rfl) (by kernel_rfl) ?_
     repeat (quiet_step (exact bE.out _ _))
     refine wpQuiet_nil ?_
     intro _ hw'
     obtain ⟨⟨dq,osq⟩,hw''⟩:=hw'
     subst hw''
     have hE2:=hE.trans (ext_regrown X dq osq)
     clear k1 k2 bE
     generalize hW6:grow (redrawn _ _) _=W6 at *
     clear hW6
     go_wp2_with fail
     go_roundw
     case rel=>exact ⟨i+1,by omega,by go_num,Lib.hid (fun j hj=>by
      by_cases e:j=i
      ·subst e; exact Hok.out
      ·exact Hz.out j (by omega)),hE2⟩
     case measure=>simp [intOf] <;> omega
   ·have Heq:=Lib.hid (show decide (A=B)=true from decide_eq_true (mx_getD_ext (by rw [← Hn.out, ← Hm.out]) (fun j hj=>Hz.out j (by rw [← Hn.out] at hj; omega))))
    go_wp2_with fail
    go_ret
    exact ⟨by rw [Heq.out]; rfl,hE⟩
 ·have hne:decide (A=B)=false:=decide_eq_false (fun e=>hl (by rw [e]))
  rw [hne]
  have h1 : ¬ ((A.length:Int)=(B.length:Int)):=by omega
  have h2:((A.length:Int)==(B.length:Int))=false:=beq_eq_false_iff_ne.2 h1
  have h3:((A.length:Int) != (B.length:Int))=true:=by simp [bne,h2]
  clear hSa hSb hca hcb hne hrA hrB hvA hvB
  generalize A.length=n at *
  generalize B.length=m at *
  go_enter Tryz.func165,Tryz.ntmps165
  go_wp2_with fail
  go_ret
  exact ⟨rfl,Ext.refl _⟩
end Go.Proofs.YtjnpakablgommaaGreatDoor
