/- Part 43 of the proof of the claim: contracts of the functions that it reaches, and plain laws; no condition. -/
import Derived.Test.YtjnpakablgommaaGreatDoorV31
import Derived.Test.YtjnpakablgommaaGreatDoorV42
import Derived.BigQuiet
import Derived.Test.YtjnpakablgommaaGreatDoorV39
import Derived.Test.YtjnpakablgommaaGreatDoorV34
import Derived.Test.YtjnpakablgommaaGreatDoorV40
import Derived.BigFrame
import Derived.Laws.Rows
import Derived.Test.YtjnpakablgommaaGreatDoorV02
import Derived.Test.YtjnpakablgommaaGreatDoorV14
import Derived.Test.YtjnpakablgommaaGreatDoorRows
import Derived.ProofKit
import Derived.LaidMore
import Derived.OpenShut
import Derived.Stop.Joined
import Derived.Stop.LaidErr
import Derived.Lib.LaidTab
import Derived.Deep.Matrix
import Derived.Test.YtjnpakablgommaaGreatDoorV29
set_option maxRecDepth 100000
namespace Go.Proofs.YtjnpakablgommaaGreatDoor
open Go.RowKit Go.Sort
theorem tmpT_b24 {x v:List Int} (hx : ∀ z∈x,-1000≤z∧z≤1000) (hv : ∀ z∈v,-1000000000≤z∧z≤1000000000) : ∀ k,(sumZ (fun i=>x.getD i 0*v.getD i 0) k).natAbs≤k*1000000000000
 | 0=>by simp [sumZ]
 | k+1=>by
  have h1:=tmpT_b24 hx hv k
  have h2:(x.getD k 0*v.getD k 0).natAbs≤1000000000000:=by
   rw [Int.natAbs_mul]
   have a1:(x.getD k 0).natAbs≤1000:=by
    rw [List.getD_eq_getElem?_getD]
    rcases Nat.lt_or_ge k x.length with h | h
    ·rw [List.getElem?_eq_getElem h]; have:=hx _ (List.getElem_mem h); simp only [Option.getD_some]; omega
    ·rw [List.getElem?_eq_none h]; simp
   have a2:(v.getD k 0).natAbs≤1000000000:=by have:=getD_bd9 hv k; omega
   exact Nat.le_trans (Nat.mul_le_mul a1 a2) (by decide)
  rw [sumZ]; omega
set_option maxHeartbeats 4000000 in
theorem sizeOf24_any {w:World} {P:List Int} {C M:Mx} {G:List (List Rat)} {sp:Option Addr} {cp:Nat} {sc:Option Addr} {lc cc:Nat} {sm:Option Addr} {lm cm:Nat} {sg:Option Addr} {lg cg:Nat} {sx:Option Addr} {nx cx:Nat} {x:List Int} (h:TuV w P C M G sp cp sc lc cc sm lm cm sg lg cg) (hx:RowR w (.slice sx nx cx) x) (h0:tuE P.length M x=0) (hL:Laid w) :
  Calls Tryz.prog 46 #[tuS P sp cp sc lc cc sm lm cm sg lg cg,.slice sx nx cx] w fun e w'=>(∃ g,e = .returned (slv g P.length P.length)∧SzO w.heap.size w' g (tuL P.length M G x))∧Ext w w':=by
 obtain ⟨hmz,hsm⟩:=tuE_zero h0
 obtain ⟨hxl,hxb⟩:=mzE_zero hmz
 obtain ⟨hT,hG,hln,hcl,hsh⟩:=h
 have hm4:=hT.m4
 have hp4:=hT.ok.p4
 have hsM:=hT.ok.sM
 have hnx:nx=P.length:=by obtain ⟨_,_,_,_,e,_⟩:=hx; injection e with _ e2 _; omega
 have Hfac:=Lib.hid (fun W v (hW:Ext w W) (hv:RowR W v (tmpL M x))=>factors24_any (w:=W) (v:=v) hv (by rw [tmpL_length]; omega) (fun z hz=>by have:=smallB_iff.1 hsm z hz; unfold I64; omega) (hL.ext hW))
 have Hcmb:=Lib.hid (fun W v (hW:Ext w W) (hv:SzR W v (nbL (tmpL M x)))=>combine24_any (np:=P.length) (hG.ext hW) hv hcl (by rw [nbL_length,tmpL_length]; omega) (fun s hs=>shQ_nd (hsh s hs) (by omega)) (nbL_nd (smallB_iff.1 hsm) (by omega)) (by omega) (by omega) (hL.ext hW))
 have hdef:tuL P.length M G x=cmbQ G (nbL (tmpL M x)) P.length:=rfl
 simp only [← hdef] at Hcmb
 obtain ⟨sx',gx,ox,cx',ex,hxc,hSx⟩:=hx
 injection ex with q1 q2 q3
 subst q1 q3
 have HSx:=Lib.hid hSx
 obtain ⟨sm',gm,om,cm',vs,em,hmc,hvl,hSm,hrm⟩:=hT.hM
 injection em with q4 q5 q6
 subst q4 q6
 have HS:=Lib.hid hSm
 have HV:=Lib.hid hvl
 have HR:=Lib.hid hrm
 have hX:=(Ext.refl w).alloc (.cells #[.slice sp P.length cp,.slice sc lc cc,.slice sm lm cm,.slice sg lg cg] 67)
 have x0:(w.alloc (.cells #[.slice sp P.length cp,.slice sc lc cc,.slice sm lm cm,.slice sg lg cg] 67)).cell? ⟨w.heap.size,0,none⟩=some (.slice sp P.length cp):=by go_simp
 have x1:(w.alloc (.cells #[.slice sp P.length cp,.slice sc lc cc,.slice sm lm cm,.slice sg lg cg] 67)).cell? ⟨w.heap.size,1,none⟩=some (.slice sc lc cc):=by go_simp
 have x2:(w.alloc (.cells #[.slice sp P.length cp,.slice sc lc cc,.slice sm lm cm,.slice sg lg cg] 67)).cell? ⟨w.heap.size,2,none⟩=some (.slice sm lm cm):=by go_simp
 have x3:(w.alloc (.cells #[.slice sp P.length cp,.slice sc lc cc,.slice sm lm cm,.slice sg lg cg] 67)).cell? ⟨w.heap.size,3,none⟩=some (.slice sg lg cg):=by go_simp
 subst q5
 subst hnx
 have Hxl:=Lib.hid hxl
 have Hb:=Lib.hid (fun i (h:i<M.length) k=>tmpT_b24 hxb (hsM _ (List.getElem_mem h)) k)
 have Hrl:=Lib.hid (show ∀ i (h:i<M.length),M[i].length=P.length from fun i h=>by
  obtain ⟨psM,hIM⟩:=hT.ok.kM.1
  exact hIM.rect _ (List.getElem_mem h))
 have Htl:=Lib.hid (tmpL_length M x)
 have Htg:Hid (∀ i (h:i<M.length),(tmpL M x).take (i+1)=(tmpL M x).take i++[sumZ (fun k=>x.getD k 0*M[i].getD k 0) P.length]):=Lib.hid (fun i h=>by
  have hi:i<(tmpL M x).length:=by rw [tmpL_length]; exact h
  have e:(tmpL M x)[i]=sumZ (fun k=>x.getD k 0*M[i].getD k 0) P.length:=by
   simp only [tmpL,List.getElem_map]
   exact congrArg (sumZ (fun k=>x.getD k 0*M[i].getD k 0)) hxl
  rw [List.take_succ_eq_append_getElem hi,e])
 have hw1:w.heap.size+1=(w.alloc (.cells #[.slice sp P.length cp,.slice sc lc cc,.slice sm M.length cm,.slice sg lg cg] 67)).heap.size:=by simp
 clear hT hG hln hcl hsh hsM hmz hsm hxb h0 hL hdef hSx hSm hrm hvl hxl q2 hxc
 go_enter Tryz.func46,Tryz.ntmps46
 go_wp2_with fail
 generalize w.alloc (.cells #[.slice sp P.length cp,.slice sc lc cc,.slice sm M.length cm,.slice sg lg cg] 67)=X at *
 have Hw1:=Lib.hid hw1
 clear hw1
 go_loopw [5,6] (fun tv iv wr => ∃ i:Nat,i≤M.length∧iv = .int .i64 i∧Hid (RowV X.heap.size wr tv ((tmpL M x).take i))∧Ext X wr) (fun _ iv _=>M.length-(intOf iv).toNat)
 case atStart=>exact ⟨0,by omega,by go_num,Lib.hid (RowV.nil _ _),Ext.refl _⟩
 case round =>
  obtain ⟨i,hi,rfl,HVr,hE⟩:=hrel
  generalize wr=Y at *
  have y0:=hE.cell x0
  have y2:=hE.cell x2
  have y3:=hE.cell x3
  have eY:=hX.trans hE
  have hYs:=hE.size
  by_cases hlt:i<M.length
  ·have hii:(i:Int)<(M.length:Int):=by omega
   obtain rfl:=HS.out.addr (by rw [HV.out]; omega)
   obtain ⟨sr,br,or,cr,hrow,hrc,hSr⟩:=MatR.row HS.out HV.out HR.out hlt
   have hrl:=Hrl.out i hlt
   rw [hrl] at hrow hrc
   have yr:=eY.cell hrow
   have HSr:=Lib.hid hSr
   have Htk:=Lib.hid (Htg.out i hlt)
   have Hbi:=Lib.hid (Hb.out i hlt)
   obtain ⟨v,hv⟩ : ∃ v,v=M[i]:=⟨_,rfl⟩
   rw [← hv] at Htk Hbi hrl
   have Hv:=Lib.hid hv
   have hil:((tmpL M x).take i).length=i:=by rw [List.length_take,Htl.out]; omega
   have Hil:=Lib.hid hil
   have Hvl:=Lib.hid hrl
   have HYs:=Lib.hid hYs
   clear hrow hSr hil hv hrl hYs
   go_wp2_with fail
   go_loopw [7,8] (fun sv kv wr => ∃ k:Nat,k≤P.length∧kv = .int .i64 k∧sv = .int .i64 (sumZ (fun t=>x.getD t 0*v.getD t 0) k)∧Ext Y wr) (fun _ kv _=>P.length-(intOf kv).toNat)
   case atStart=>exact ⟨0,by omega,by go_num,rfl,Ext.refl _⟩
   case round =>
    obtain ⟨k,hk,rfl,rfl,hEk⟩:=hrel
    generalize wr=U at *
    have u2:=hEk.cell y2
    have ur:=hEk.cell yr
    have u0:=hEk.cell y0
    have u3:=hEk.cell y3
    by_cases hkl:k<P.length
    ·have hki:(k:Int)<(P.length:Int):=by omega
     have hkx:k<x.length:=by rw [Hxl.out]; exact hkl
     have hkv:k<v.length:=by rw [Hvl.out]; exact hkl
     obtain rfl:=HSx.out.addr (by simp; omega)
     obtain rfl:=HSr.out.addr (by simp; rw [← Hv.out,Hvl.out]; omega)
     have cx0:=(eY.trans hEk).cell (HSx.out.cell k (.int .i64 x[k]) (is_get hkx))
     have cv0:=(eY.trans hEk).cell (HSr.out.cell k (.int .i64 v[k]) (by
      have:=Hv.out
      subst this
      exact is_get hkv))
     have hxk:x.getD k 0=x[k]:=getD_get hkx 0
     have hvk:v.getD k 0=v[k]:=getD_get hkv 0
     obtain ⟨p,hp⟩ : ∃ p,p=x[k]:=⟨_,rfl⟩
     obtain ⟨q,hq⟩ : ∃ q,q=v[k]:=⟨_,rfl⟩
     rw [← hp] at cx0 hxk
     rw [← hq] at cv0 hvk
     obtain ⟨s,hs⟩ : ∃ s,s=sumZ (fun t=>x.getD t 0*v.getD t 0) k:=⟨_,rfl⟩
     have hs1:sumZ (fun t=>x.getD t 0*v.getD t 0) (k+1)=s+q*p:=by rw [sumZ, ← hs,hxk,hvk,Int.mul_comm]
     have b0:=Hbi.out k
     have b1:=Hbi.out (k+1)
     rw [← hs] at b0 ⊢
     rw [hs1] at b1
     have hkb:k*1000000000000≤4*1000000000000:=Nat.mul_le_mul_right _ (by omega)
     have hkb1:(k+1)*1000000000000≤5*1000000000000:=Nat.mul_le_mul_right _ (by omega)
     have hm:IntKind.i64.wrap (q*p)=q*p:=IntWalk.i64_in _ (by omega)
     have ha:IntKind.i64.wrap (s+q*p)=s+q*p:=IntWalk.i64_in _ (by omega)
     have Hs1:=Lib.hid hs1
     clear hp hq hs hxk hvk hkx hkv b0 b1 hs1 hkb hkb1
     go_wp2_with fail
     go_quiet (fail)
     have hEk:=hEk.drewN nq
     go_wp2_with fail
     go_roundw
     case rel=>exact ⟨k+1,by omega,by go_num,by rw [Hs1.out],hEk⟩
     case measure=>simp [intOf] <;> omega
    ·obtain rfl:k=P.length:=by omega
     have hki : ¬ (P.length:Int)<(P.length:Int):=by omega
     have hEU:=hE.trans hEk
     have HVZ:=Lib.hid (HVr.out.ext hEk)
     have hUs:=hEU.size
     obtain ⟨z,hz⟩ : ∃ z,z=sumZ (fun t=>x.getD t 0*v.getD t 0) P.length:=⟨_,rfl⟩
     have Htk2:=Lib.hid (show (tmpL M x).take (i+1)=(tmpL M x).take i++[z] by rw [hz]; exact Htk.out)
     rw [← hz]
     clear hz hkl Hbi yr ur u0 u2 u3 y0 y2 y3
     go_wp2_with (at_builtin; refine app_int rfl _ _ 30 Tryz.underlying30 rfl rfl (HVZ.out.ext ((Ext.refl _).alloc _)) rfl (b:=U.heap.size) (z:=z) (by go_simp) (by rw [Hil.out]; omega) (by simp; omega) ?_; intro gg cap2 w8 hO8 hB8 hG8; rw [Hil.out, ← Htk2.out] at hO8; rw [Hil.out])
     have hE8:Ext X w8:=Below.trans (hEU.alloc _) hB8
     have HO8:=Lib.hid hO8
     clear hG8 hB8 hO8
     go_wp2_with fail
     go_roundw
     case rel=>exact ⟨i+1,by omega,by go_num,HO8,hE8⟩
     case measure=>simp [intOf] <;> omega
  ·obtain rfl:i=M.length:=by omega
   have hii : ¬ (M.length:Int)<(M.length:Int):=by omega
   have HVf:=Lib.hid (show RowV X.heap.size Y u5 (tmpL M x) by have:=HVr.out; rw [← Htl.out,List.take_length] at this; exact this)
   obtain ⟨va,vl,vc,rfl⟩:=RowV.slice HVf.out
   clear HVr hlt
   go_wp2_with fail
   have d0:Ext Y Y.drew:=(Ext.refl Y).drew
   refine wp_region_held_tail (S:=fun W=>Ext Y W) 9 (by kernel_rfl) (by simp) ?_
   intro inv
   generalize Y.drew=Y1 at *
   refine wpAnyLH_take (i:=0) (v := .pointer (some ⟨w.heap.size,3,none⟩)) rfl (by kernel_rfl) (fun _ _ _ h=>h) (.inl ⟨by rfl,fun W hW=>by go_simp⟩) d0 inv ?_
   intro inv
   go_simp
   refine wpAnyLH_take (i:=1) (v := .slice sg lg cg) rfl (by kernel_rfl) (fun _ _ _ h=>h) (.inl ⟨by rfl,fun W hW=>by have z0:=hW.cell y3; go_simp⟩) d0 inv ?_
   intro inv
   go_simp
   refine wpAnyLH_take (i:=2) (v := .slice va vl vc) rfl (by kernel_rfl) (fun _ _ _ h=>h) (.inl ⟨by rfl,fun W hW=>by go_simp⟩) d0 inv ?_
   intro inv
   go_simp
   refine wpAnyLH_take (i:=4) (v := .pointer (some ⟨w.heap.size,0,none⟩)) rfl (by kernel_rfl) (fun _ _ _ h=>h) (.inl ⟨by rfl,fun W hW=>by go_simp⟩) d0 inv ?_
   intro inv
   go_simp
   refine wpAnyLH_take (i:=5) (v := .pointer (some ⟨w.heap.size,0,none⟩)) rfl (by kernel_rfl) (fun _ _ _ h=>h) (.inl ⟨by rfl,fun W hW=>by go_simp⟩) d0 inv ?_
   intro inv
   go_simp
   refine wpAnyLH_take (i:=6) (v := .slice sp P.length cp) rfl (by kernel_rfl) (fun _ _ _ h=>h) (.inl ⟨by rfl,fun W hW=>by have z0:=hW.cell y0; go_simp⟩) d0 inv ?_
   intro inv
   go_simp
   refine wpAnyLH_take (i:=7) (v := .int .i64 P.length) rfl (by kernel_rfl) (fun _ _ _ h=>h) (.inl ⟨by rfl,fun W hW=>by go_simp⟩) d0 inv ?_
   intro inv
   go_simp
   refine wpAnyLH_oneI (i:=3) rfl (by kernel_rfl) inv (fun inv K0 hK0 => ?_)
   go_simp
   refine (Hfac.out _ _ (eY.trans d0) (HVf.out.row.ext d0)).mono ?_
   rintro e Y2 ⟨⟨u,rfl,hu⟩,hG1⟩
   have d1:=d0.trans hG1
   have Hu:=Lib.hid hu.read
   obtain ⟨ua,ul,uc,rfl⟩:=hu.slice
   refine hK0 _ _ d1 ?_
   clear hK0 hu
   refine wpAnyLH_oneI (i:=8) rfl (by kernel_rfl) inv (fun inv K0 hK0 => ?_)
   go_simp
   refine (Hcmb.out _ _ (eY.trans d1) Hu.out).mono ?_
   rintro e Y3 ⟨⟨gq,rfl,hO⟩,hG2⟩
   have d2:=d1.trans hG2
   have HO:=Lib.hid (hO.mono (B':=w.heap.size) (by have:=eY.size; have:=d1.size; omega))
   refine hK0 _ _ d2 ?_
   clear hK0 hO
   refine wpAnyLH_end (by kernel_rfl) ?_
   have e9:=eY.trans d2
   clear inv d0 d1 d2 hG1 hG2 Hfac Hcmb Hu HVf
   go_wp2_with fail
   go_ret
   exact ⟨⟨gq,rfl,HO.out⟩,e9⟩
theorem prZ_sh {A B:Nat→Nat→Int} {P:List Int} {C M:Mx} (h:TmOK P C M) (hm:M.length≤4) : ∀ l∈prZ P.length M (mkG A B P.length M.length),l.length=P.length∧ShQ l:=fun l hl=>by
 obtain ⟨i,_,rfl⟩:=List.mem_map.1 hl
 refine ⟨tuL_length _ _ _ _,fun r hr=>(tuL_tw (tuE_zero (tuE_unit h i)).2 r hr).sm ?_⟩
 have h1:M.length*(480*1000000000)≤4*(480*1000000000):=Nat.mul_le_mul_right _ hm
 have:=big30
 omega
theorem fp_back {w w':World} {P:List Int} {C M:Mx} {G:List (List Rat)} {e:Ending} (h:FpPost w P C M (prZ P.length M G) e w') (hT:TmOK P C M) (hln:G.length=M.length) (hcl : ∀ l∈G,l.length=P.length) (hsh : ∀ l∈G,ShQ l):(∃ t,e = .returned (.tuple #[t,.int .i64 0])∧TuR w' t P C M G)∧Ext w w':=by
 rcases h with ⟨⟨c,hc,r,hr,h0⟩,_⟩ | ⟨_,S,hS,hm⟩
 ·exfalso
  obtain ⟨psC,hIC⟩:=hT.kC.1
  rw [cmb_pr hln (hIC.rect c hc),tuL_zero (tmp_comma hT hc)] at hr
  rw [(List.mem_replicate.1 hr).2] at h0
  exact h0 rfl
 ·rw [from_pr hS hln hcl] at hm
  exact md_yes hm (fun l hl=>szE_sh (hsh l hl))
set_option maxHeartbeats 16000000 in
theorem tpr_walk {w:World} {b:Int} {rv:Value} {Z:List (List Int)} {vals:Bool} {A B:Nat→Nat→Int} (hb:0≤b∧b≤255) (hR:RowsA w rv Z) (hB : ∀ i t,0≤B i t∧B i t≤255) (hL:Laid w) :
  Calls Tryz.prog 7 #[planT b rv vals A B] w fun e w'=>e = .returned (.bool true)∧Ext w w':=by
 have hkn:=Lib.hid (fun W (hW:Ext w W)=>known24_any (hL.ext hW))
 have hft:=Lib.hid (fun W (hW:Ext w W)=>fits24_any (b:=b) (vals:=vals) (A:=A) (B:=B) (hR.ext hW))
 have hmk:=Lib.hid (fun W (hW:Ext w W) (h3:Z.length≤3)=>make24_any (vals:=vals) (A:=A) hb (hR.ext hW) h3 hB (hL.ext hW))
 have HL:=Lib.hid hL
 obtain ⟨cs,hcs⟩ : ∃ cs,Value.agg cs=planT b rv vals A B:=⟨_,rfl⟩
 have hsz:cs.size=35:=by
  injection hcs with h
  rw [h]; rfl
 have hinf:(Tryz.prog.info? 58).map (·.size)=some cs.size:=by rw [hsz]; kernel_rfl
 simp only [← hcs] at hft hmk ⊢
 clear hcs hsz hb hR hB
 have hX:=(Ext.refl w).alloc (.cells cs 58)
 have hg:(w.alloc (.cells cs 58)).heap[w.heap.size]? = some (.cells cs 58 (0,0)):=heap_alloc_new _ _
 have hlt0:w.heap.size<(w.alloc (.cells cs 58)).heap.size:=by simp
 clear hL
 by_cases hz3:Z.length≤3
 case neg =>
  simp only [decide_eq_false hz3] at hft
  clear hz3
  go_enter Tryz.func7,Tryz.ntmps7
  go_wp2_with fail
  refine (hkn.out _ hX).mono ?_
  rintro e W1 ⟨rfl,hE1⟩
  have hg1:=(hE1.block _ hlt0).trans hg
  have e1:=hX.trans hE1
  clear hg hE1 hlt0
  go_wp2_with (refine BigFrame.wpList_want (by rfl) fun K hK=>wp_load_row 58 _ rfl w.heap.size rfl 58 cs (0,0) _ hg1 Tryz.underlying58 rfl hinf (hK _ _ ?_))
  refine (hft.out _ e1).mono ?_
  rintro e W2 ⟨rfl,hE2⟩
  have hg2:=(hE2.block _ (Array.getElem?_eq_some_iff.1 hg1).1).trans hg1
  have e2:=e1.trans hE2
  clear hg1 hE2 hft
  go_wp2_with fail
  refine (hkn.out _ e2).mono ?_
  rintro e W9 ⟨rfl,hE9⟩
  go_wp2_with fail
  go_ret
  exact ⟨rfl,e2.trans hE9⟩
 simp only [decide_eq_true hz3] at hft
 have Hz3:=Lib.hid hz3
 clear hz3
 go_enter Tryz.func7,Tryz.ntmps7
 go_wp2_with fail
 refine (hkn.out _ hX).mono ?_
 rintro e W1 ⟨rfl,hE1⟩
 have hg1:=(hE1.block _ hlt0).trans hg
 have e1:=hX.trans hE1
 clear hg hE1 hlt0
 go_wp2_with (refine BigFrame.wpList_want (by rfl) fun K hK=>wp_load_row 58 _ rfl w.heap.size rfl 58 cs (0,0) _ hg1 Tryz.underlying58 rfl hinf (hK _ _ ?_))
 refine (hft.out _ e1).mono ?_
 rintro e W2 ⟨rfl,hE2⟩
 have hg2:=(hE2.block _ (Array.getElem?_eq_some_iff.1 hg1).1).trans hg1
 have e2:=e1.trans hE2
 clear hg1 hE2 hft
 clear hkn
 go_wp2_with (refine wpList_load_row rfl 58 _ rfl w.heap.size rfl 58 cs (0,0) _ hg2 Tryz.underlying58 rfl hinf ?_)
 refine (hmk.out _ e2 Hz3.out).mono ?_
 rintro e W3 ⟨t,C,M,rfl,hT,hE3⟩
 obtain ⟨sp,cp,sc,lc,cc,sm,lm,cm,sg,lg,cg,rfl,hT⟩:=hT
 have e3:=e2.trans hE3
 have ea:=(Ext.refl W3).alloc (.cells #[.slice sp (prL b).length cp,.slice sc lc cc,.slice sm lm cm,.slice sg lg cg] 67)
 have x0:(W3.alloc (.cells #[.slice sp (prL b).length cp,.slice sc lc cc,.slice sm lm cm,.slice sg lg cg] 67)).cell? ⟨W3.heap.size,0,none⟩=some (.slice sp (prL b).length cp):=by go_simp
 have x1:(W3.alloc (.cells #[.slice sp (prL b).length cp,.slice sc lc cc,.slice sm lm cm,.slice sg lg cg] 67)).cell? ⟨W3.heap.size,1,none⟩=some (.slice sc lc cc):=by go_simp
 have x2:(W3.alloc (.cells #[.slice sp (prL b).length cp,.slice sc lc cc,.slice sm lm cm,.slice sg lg cg] 67)).cell? ⟨W3.heap.size,2,none⟩=some (.slice sm lm cm):=by go_simp
 have x3:(W3.alloc (.cells #[.slice sp (prL b).length cp,.slice sc lc cc,.slice sm lm cm,.slice sg lg cg] 67)).cell? ⟨W3.heap.size,3,none⟩=some (.slice sg lg cg):=by go_simp
 have HT:=Lib.hid (hT.ext ea)
 have e4:=e3.trans ea
 clear hmk hg2 hT ea e3 hE3 e2 e1 hinf hX
 go_wp2_with fail
 generalize W3.alloc (.cells #[.slice sp (prL b).length cp,.slice sc lc cc,.slice sm lm cm,.slice sg lg cg] 67)=X at *
 generalize W3.heap.size=b5 at *
 have hm4:=HT.out.tm.m4
 have Hzs:=Lib.hid (fun i (hi:i<(prL b).length)=>tuL_sz (A:=A) (B:=B) (np:=(prL b).length) (k:=M.length) (M:=M) (x:=unitL (prL b).length i) hm4 (tuE_unit HT.out.tm.ok i))
 have Hsh:=Lib.hid (prZ_sh (A:=A) (B:=B) HT.out.tm.ok hm4)
 have hln:=HT.out.gn.len
 generalize mkG A B (prL b).length M.length=G at *
 generalize prL b=P at *
 subst hln
 have hp4:=HT.out.tm.ok.p4
 have hp0:=HT.out.tm.ok.p0
 have HPr:=Lib.hid (tuPrimes_any HT.out Hzs.out (HL.out.ext e4))
 have Hpu:=Lib.hid (fun W (hW:Ext X W)=>tuPure_any (HT.out.ext hW) (HL.out.ext (e4.trans hW)))
 have Hfp:=Lib.hid (fun W sz cz (hW:Ext X W) (hs:GnR W (.slice sz (prZ P.length M G).length cz) (prZ P.length M G))=>(tuFrom_any (HT.out.ext hW).tm hs (prZ_length _ _ _) (fun l hl=>(Hsh.out l hl).1) (fun l hl=>(Hsh.out l hl).2) (HL.out.ext (e4.trans hW))).mono fun e w' h=>fp_back h HT.out.tm.ok HT.out.ln HT.out.cl HT.out.sh)
 rw [prZ_length] at Hfp
 have Hso:=Lib.hid (fun W s n c i (hW:Ext X W) (hx:RowR W (.slice s n c) (unitL P.length i))=>sizeOf24_any (HT.out.ext hW) hx (tuE_unit HT.out.tm.ok i) (HL.out.ext (e4.trans hW)))
 have Hju:=Lib.hid (fun W v i (hW:Ext X W) (hx:RowR W v (unitL P.length i))=>just24_any hx (by rw [unitL_length]; omega) (fun z hz=>by unfold I64; rcases unit_mem hz with rfl | rfl <;> omega) (HL.out.ext (e4.trans hW)))
 have Hll:=Lib.hid (fun i=>tuL_length P.length M G (unitL P.length i))
 have HPz:=Lib.hid (fun i (hi:i<P.length)=>prZ_getD (M:=M) (G:=G) hi)
 have HPl:=Lib.hid (prZ_length P.length M G)
 have Hcl:=Lib.hid (fun l (hl:l∈prZ P.length M G)=>(Hsh.out l hl).1)
 obtain ⟨q,hq⟩ : ∃ q,q=decide (tuL P.length M G (unitL P.length 0)=nbL (unitL P.length 0)):=⟨_,rfl⟩
 simp only [← hq] at Hpu
 have Hq:=Lib.hid hq
 clear hq Hzs Hsh hm4
 refine HPr.out.mono ?_
 rintro e Y ⟨⟨v,rfl,hG⟩,hE1⟩
 have HG:=Lib.hid hG.read
 obtain ⟨va,vc,rfl⟩:=hG.slice
 rw [HPl.out] at HG ⊢
 clear hG HPr
 replace x0:=hE1.cell x0
 replace x1:=hE1.cell x1
 replace x2:=hE1.cell x2
 replace x3:=hE1.cell x3
 have HT1:=Lib.hid (HT.out.ext hE1)
 go_wp2_with fail
 refine (Hpu.out _ hE1).mono ?_
 rintro e Y2 ⟨rfl,hE⟩
 replace x0:=hE.cell x0
 replace x1:=hE.cell x1
 replace x2:=hE.cell x2
 replace x3:=hE.cell x3
 replace HG:=Lib.hid (HG.out.ext hE)
 replace hE1:=hE1.trans hE
 clear hE Hpu HT1
 go_wp2_with fail
 refine (Hfp.out _ _ _ hE1 HG.out).mono ?_
 rintro e Y3 ⟨⟨t,rfl,hTR⟩,hE⟩
 obtain ⟨tsp,tcp,tsc,tlc,tcc,tsm,tlm,tcm,tsg,tlg,tcg,rfl,hTV⟩:=hTR
 have htl:=hTV.gn.len
 subst htl
 replace x0:=hE.cell x0
 replace x1:=hE.cell x1
 replace x2:=hE.cell x2
 replace x3:=hE.cell x3
 replace HG:=Lib.hid (HG.out.ext hE)
 replace hE1:=hE1.trans hE
 clear hE Hfp
 have eA:=(Ext.refl Y3).alloc (.cells #[.slice tsp P.length tcp,.slice tsc tlc tcc,.slice tsm tlm tcm,.slice tsg G.length tcg] 67)
 have p0:(Y3.alloc (.cells #[.slice tsp P.length tcp,.slice tsc tlc tcc,.slice tsm tlm tcm,.slice tsg G.length tcg] 67)).cell? ⟨Y3.heap.size,0,none⟩=some (.slice tsp P.length tcp):=by go_simp
 have p1:(Y3.alloc (.cells #[.slice tsp P.length tcp,.slice tsc tlc tcc,.slice tsm tlm tcm,.slice tsg G.length tcg] 67)).cell? ⟨Y3.heap.size,1,none⟩=some (.slice tsc tlc tcc):=by go_simp
 have p2:(Y3.alloc (.cells #[.slice tsp P.length tcp,.slice tsc tlc tcc,.slice tsm tlm tcm,.slice tsg G.length tcg] 67)).cell? ⟨Y3.heap.size,2,none⟩=some (.slice tsm tlm tcm):=by go_simp
 have p3:(Y3.alloc (.cells #[.slice tsp P.length tcp,.slice tsc tlc tcc,.slice tsm tlm tcm,.slice tsg G.length tcg] 67)).cell? ⟨Y3.heap.size,3,none⟩=some (.slice tsg G.length tcg):=by go_simp
 replace x0:=eA.cell x0
 replace x1:=eA.cell x1
 replace x2:=eA.cell x2
 replace x3:=eA.cell x3
 replace HG:=Lib.hid (HG.out.ext eA)
 replace hE1:=hE1.trans eA
 have HTt:=Lib.hid (hTV.ext eA)
 have HTx:=Lib.hid (HT.out.ext hE1)
 have Hq0:=Lib.hid (fun W (hW:Ext (Y3.alloc (.cells #[.slice tsp P.length tcp,.slice tsc tlc tcc,.slice tsm tlm tcm,.slice tsg G.length tcg] 67)) W)=>equal24_any (HTx.out.ext hW) (HTt.out.ext hW))
 simp only [and_self,decide_true] at Hq0
 clear hTV eA
 go_wp2_with fail
 generalize Y3.alloc (.cells #[.slice tsp P.length tcp,.slice tsc tlc tcc,.slice tsm tlm tcm,.slice tsg G.length tcg] 67)=V at *
 generalize Y3.heap.size=b8 at *
 refine (Hq0.out _ (Ext.refl _)).mono ?_
 rintro e V2 ⟨rfl,hE⟩
 replace x0:=hE.cell x0
 replace x1:=hE.cell x1
 replace x2:=hE.cell x2
 replace x3:=hE.cell x3
 replace HG:=Lib.hid (HG.out.ext hE)
 replace hE1:=hE1.trans hE
 clear hE Hq0 HTt HTx p0 p1 p2 p3
 obtain ⟨sva,gv,gov,cvv,vv,ev,hcv,hvl,hSv,hrv⟩:=HG.out
 injection ev with ev1 ev2 ev3
 subst ev1 ev3
 have hav:=hSv.addr (by rw [hvl,HPl.out]; exact hp0)
 subst hav
 have HVl:=Lib.hid (hvl.trans HPl.out)
 have HSv:=Lib.hid hSv
 have HRv:=Lib.hid hrv
 clear ev2 hvl hSv hrv hcv HG
 go_wp2_with fail
 obtain ⟨i0,hi0,hz0,hz1,hz2⟩:=info_parts Tryz.infoInt
 go_loopw [11] (fun iv wr => ∃ i:Nat,i≤P.length∧iv = .int .i64 i∧Ext V2 wr) (fun iv _=>P.length-(intOf iv).toNat)
 case atStart=>exact ⟨0,by omega,by go_num,Ext.refl _⟩
 case round =>
  obtain ⟨i,hi,rfl,hE⟩:=hrel
  generalize wr=D at *
  have eD:=hE1.trans hE
  by_cases hlt:i<P.length
  case neg =>
   obtain rfl:i=P.length:=by omega
   have hii : ¬ (P.length:Int)<(P.length:Int):=by omega
   clear hlt
   go_wp2_with fail
   go_ret
   exact ⟨rfl,e4.trans eD⟩
  have hii:(i:Int)<(P.length:Int):=by omega
  have hiv:i<vv.length:=by rw [HVl.out]; exact hlt
  have c0:=hE.cell (HSv.out.cell i _ (List.getElem?_eq_getElem hiv))
  have hsz:=(HRv.out i (by rw [HPl.out]; exact hlt) hiv).ext hE
  have hpi:(prZ P.length M G)[i]'(by rw [HPl.out]; exact hlt)=tuL P.length M G (unitL P.length i):=by
   have:=HPz.out i hlt
   rwa [List.getD_eq_getElem?_getD,List.getElem?_eq_getElem (by rw [HPl.out]; exact hlt),Option.getD_some] at this
  rw [hpi] at hsz
  obtain ⟨xa,xb,xo,xc,ex,j1,j2,j3⟩:=id hsz
  clear j1 j2 j3
  rw [ex] at c0 hsz
  rw [Hll.out] at c0 hsz
  have Hsz:=Lib.hid hsz
  clear hpi ex hsz hiv
  go_wp2_with (at_make; refine wpList_make_full _ rfl _ _ 30 rfl D.heap.size 3 i0 (.int .i64 0) 1 Tryz.underlying30 hi0 hz0 hz1 .i64 .i64 _ _ P.length rfl rfl (by omega) (by omega) (by rw [hz2]; omega) (by unfold maxLen; omega) (Nat.le_refl _) ?_; intro w1 hown1 hgrow1; have hE9:=ext_grown hgrow1; have hb0:OwnV 3 D.heap.size w1 D.heap.size P.length (is (List.replicate P.length 0)):=row_ownV (zero_row hown1) (by simp); have hcl:=hb0.cell (j:=i) (by simpa using hlt); have hfz:=hb0.frozen i; have HE9:=Lib.hid hE9; have HB0:=Lib.hid hb0; clear hown1 hgrow1 hE9 hb0)
  obtain ⟨hO2,hG⟩:=HB0.out.set i (.int .i64 1)
  rw [← is_set] at hO2
  have hEU:=ext_trans_grown HE9.out hG HB0.out.lt.1
  have HU:=Lib.hid (show OwnV 3 0 (w1.setCell ⟨D.heap.size,i,none⟩ (.int .i64 1)) D.heap.size P.length (is (unitL P.length i)) from OwnV.mono hO2 (Nat.zero_le _))
  clear HE9 HB0 hO2 hG
  generalize w1.setCell ⟨D.heap.size,i,none⟩ (.int .i64 1)=U at *
  generalize D.heap.size=gu at *
  clear hcl hfz
  have eX0:=eD.trans hEU
  replace x0:=(hE.trans hEU).cell x0
  replace x1:=(hE.trans hEU).cell x1
  replace x2:=(hE.trans hEU).cell x2
  replace x3:=(hE.trans hEU).cell x3
  replace c0:=hEU.cell c0
  replace Hsz:=Lib.hid (Hsz.out.ext hEU)
  replace hE:=hE.trans hEU
  have HlL:=Lib.hid (Hll.out i)
  have HRu:=Lib.hid (fun W (hW:Ext U W)=>show RowR W (.slice (some ⟨gu,0,none⟩) P.length P.length) (unitL P.length i) from ⟨_,gu,0,P.length,by rw [unitL_length],by rw [unitL_length]; exact Nat.le_refl _,(HU.out.ext hW).sl⟩)
  clear hEU eD HU
  have d0:Ext U U.drew:=(Ext.refl U).drew
  refine wp_region_held_tail (S:=fun W=>Ext U W) 8 (by kernel_rfl) (by simp) ?_
  intro inv
  generalize U.drew=U1 at *
  refine wpAnyLH_take (i:=0) (v := .slice (some ⟨gv,gov,none⟩) P.length vc) rfl (by kernel_rfl) (fun _ _ _ h=>h) (.inl ⟨by rfl,fun W hW=>by go_simp⟩) d0 inv ?_
  intro inv
  go_simp
  refine wpAnyLH_take (i:=1) (v := .int .i64 i) rfl (by kernel_rfl) (fun _ _ _ h=>h) (.inl ⟨by rfl,fun W hW=>by go_simp⟩) d0 inv ?_
  intro inv
  go_simp
  refine wpAnyLH_take (i:=2) (v := .pointer (some ⟨gv,gov+i,none⟩)) rfl (by kernel_rfl) (fun _ _ _ h=>h) (.inl ⟨by rfl,fun W hW=>by go_simp⟩) d0 inv ?_
  intro inv
  go_simp
  refine wpAnyLH_take (i:=3) (v := .slice xa P.length xc) rfl (by kernel_rfl) (fun _ _ _ h=>h) (.inl ⟨by rfl,fun W hW=>by have z7:=hW.cell c0; go_simp⟩) d0 inv ?_
  intro inv
  go_simp
  refine wpAnyLH_take (i:=4) (v := .agg #[.slice sp P.length cp,.slice sc lc cc,.slice sm lm cm,.slice sg G.length cg]) rfl (by kernel_rfl) (fun _ _ _ h=>h) (.inl ⟨by rfl,fun W hW=>by have z7:=hW.cell x0; have z8:=hW.cell x1; have z9:=hW.cell x2; have z10:=hW.cell x3; go_simp⟩) d0 inv ?_
  intro inv
  go_simp
  refine wpAnyLH_take (i:=5) (v := .slice (some ⟨gu,0,none⟩) P.length P.length) rfl (by kernel_rfl) (fun _ _ _ h=>h) (.inl ⟨by rfl,fun W hW=>by go_simp⟩) d0 inv ?_
  intro inv
  go_simp
  refine wpAnyLH_oneI (i:=6) rfl (by kernel_rfl) inv (fun inv K0 hK0 => ?_)
  go_simp
  refine (Hso.out _ _ _ _ i (eX0.trans d0) (HRu.out _ d0)).mono ?_
  rintro e U2 ⟨⟨gs,rfl,hS⟩,hG⟩
  have d1:=d0.trans hG
  have Hs2:=Lib.hid (show SzR U2 (slv gs P.length P.length) (tuL P.length M G (unitL P.length i)) from by
   have:=hS.val.read
   rwa [HlL.out] at this)
  refine hK0 _ _ d1 ?_
  clear hK0 hS hG
  refine wpAnyLH_oneI (i:=7) rfl (by kernel_rfl) inv (fun inv K0 hK0 => ?_)
  go_simp
  have hsm:=Lib.hid (Same24_any (Hsz.out.ext d1) Hs2.out (by rw [HlL.out]; omega))
  simp only [decide_true] at hsm
  refine hsm.out.mono ?_
  rintro e U3 ⟨rfl,hG⟩
  have d3:=d1.trans hG
  refine hK0 _ _ d3 ?_
  clear hK0 hG hsm Hs2
  refine wpAnyLH_end (by kernel_rfl) ?_
  replace x0:=d3.cell x0
  replace x1:=d3.cell x1
  replace x2:=d3.cell x2
  replace x3:=d3.cell x3
  replace c0:=d3.cell c0
  replace Hsz:=Lib.hid (Hsz.out.ext d3)
  replace hE:=hE.trans d3
  replace eX0:=eX0.trans d3
  replace HRu:=Lib.hid (fun W (hW:Ext U3 W)=>HRu.out W (d3.trans hW))
  clear inv d0 d1 d3
  by_cases h0:i=0
  case neg =>
   have h0I : ¬ (i:Int)=0:=by omega
   have h0b:((i:Int)==0)=false:=beq_eq_false_iff_ne.2 h0I
   clear h0
   go_upto_region 17 with fail
   go_quiet (fail)
   go_wp2_with fail
   go_roundw
   case rel=>exact ⟨i+1,by omega,by go_num,hE.drewN _⟩
   case measure=>simp [intOf] <;> omega
  subst h0
  rw [Nat.add_zero] at c0
  go_upto_region 17 with fail
  have d0:Ext U3 U3.drew:=(Ext.refl U3).drew
  refine wp_region_held_tail (S:=fun W=>Ext U3 W) 12 (by kernel_rfl) (by simp) ?_
  intro inv
  generalize U3.drew=U4 at *
  refine wpAnyLH_take (i:=0) (v := .int .i64 0) rfl (by kernel_rfl) (fun _ _ _ h=>h) (.inl ⟨by rfl,fun W hW=>by go_simp⟩) d0 inv ?_
  intro inv
  go_simp
  refine wpAnyLH_take (i:=1) (v := .bool true) rfl (by kernel_rfl) (fun _ _ _ h=>h) (.inl ⟨by rfl,fun W hW=>by go_simp⟩) d0 inv ?_
  intro inv
  go_simp
  refine wpAnyLH_take (i:=2) (v := .bool true) rfl (by kernel_rfl) (fun _ _ _ h=>h) (.inl ⟨by rfl,fun W hW=>by go_simp⟩) d0 inv ?_
  intro inv
  go_simp
  refine wpAnyLH_take (i:=3) (v := .bool q) rfl (by kernel_rfl) (fun _ _ _ h=>h) (.inl ⟨by rfl,fun W hW=>by go_simp⟩) d0 inv ?_
  intro inv
  go_simp
  refine wpAnyLH_take (i:=4) (v := .slice (some ⟨gv,gov,none⟩) P.length vc) rfl (by kernel_rfl) (fun _ _ _ h=>h) (.inl ⟨by rfl,fun W hW=>by go_simp⟩) d0 inv ?_
  intro inv
  go_simp
  refine wpAnyLH_take (i:=5) (v := .int .i64 0) rfl (by kernel_rfl) (fun _ _ _ h=>h) (.inl ⟨by rfl,fun W hW=>by go_simp⟩) d0 inv ?_
  intro inv
  go_simp
  refine wpAnyLH_take (i:=6) (v := .pointer (some ⟨gv,gov,none⟩)) rfl (by kernel_rfl) (fun _ _ _ h=>h) (.inl ⟨by rfl,fun W hW=>by go_simp⟩) d0 inv ?_
  intro inv
  go_simp
  refine wpAnyLH_take (i:=7) (v := .slice xa P.length xc) rfl (by kernel_rfl) (fun _ _ _ h=>h) (.inl ⟨by rfl,fun W hW=>by have z7:=hW.cell c0; go_simp⟩) d0 inv ?_
  intro inv
  go_simp
  refine wpAnyLH_take (i:=8) (v := .slice (some ⟨gu,0,none⟩) P.length P.length) rfl (by kernel_rfl) (fun _ _ _ h=>h) (.inl ⟨by rfl,fun W hW=>by go_simp⟩) d0 inv ?_
  intro inv
  go_simp
  refine wpAnyLH_oneI (i:=9) rfl (by kernel_rfl) inv (fun inv K0 hK0 => ?_)
  go_simp
  refine (Hju.out _ _ 0 (eX0.trans d0) (HRu.out _ d0)).mono ?_
  rintro e U5 ⟨⟨u,rfl,hS⟩,hG⟩
  have d1:=d0.trans hG
  have Hs2:=Lib.hid hS.read
  refine hK0 _ _ d1 ?_
  clear hK0 hS hG
  refine wpAnyLH_oneI (i:=10) rfl (by kernel_rfl) inv (fun inv K0 hK0 => ?_)
  go_simp
  have hsm:=Lib.hid (Same24_any (Hsz.out.ext d1) Hs2.out (by rw [HlL.out]; omega))
  rw [← Hq.out] at hsm
  refine hsm.out.mono ?_
  rintro e U6 ⟨rfl,hG⟩
  have d3:=d1.trans hG
  refine hK0 _ _ d3 ?_
  clear hK0 hG hsm Hs2
  refine wpAnyLH_take (i:=11) (v := .bool false) rfl (by kernel_rfl) (fun _ _ _ h=>h) (.inl ⟨by rfl,fun W hW=>by cases q <;> go_simp⟩) d3 inv ?_
  intro inv
  go_simp
  refine wpAnyLH_end (by kernel_rfl) ?_
  have hEr:=hE.trans d3
  clear inv d0 d1 d3
  go_wp2_with fail
  go_roundw
  case rel=>exact ⟨1,by omega,by go_num,hEr⟩
  case measure=>simp [intOf] <;> omega
end Go.Proofs.YtjnpakablgommaaGreatDoor
namespace Go.Proofs.YtjnpakablgommaaGreatDoor
open Go.ChangeShapes Go.WideShapes Go.ChangeAt Go.WideMaps Go.WideElems Go.RowKit Go.Deep
theorem fr_own:ownKnob Tryz.prog.godebug=none:=by kernel_rfl
theorem fr_laidOut:laidOutB Tryz.prog=true:=by kernel_rfl
theorem fr_pow : Tryz.prog.globalNamed "internal/strconv.uint64pow10" = some 3 := by kernel_rfl
theorem fr_powT:(Tryz.prog.globals[3]?).map (·.type)=some 383:=by kernel_rfl
theorem fr_rng : Tryz.prog.globalNamed "strconv.ErrRange" = some 1 := by kernel_rfl
theorem fr_rngT:(Tryz.prog.globals[1]?).map (·.type)=some 211:=by kernel_rfl
theorem fr_c20:Tryz.prog.cellsOf 383=20:=by kernel_rfl
theorem fr_cu:Tryz.prog.cellsOf 247=1:=by kernel_rfl
theorem fr_cE:Tryz.prog.cellsOf 379=1:=by kernel_rfl
theorem fr_cS:Tryz.prog.cellsOf 9=1:=by kernel_rfl
theorem fr_star : "*" ++ "errors.errorString" = "*errors.errorString" := by decide
theorem fr_ptr (u : TypeId) (h : Tryz.prog.typeName? 3 u = some "*errors.errorString") : u = 377 :=
 typeName_ptr_named (nm := "errors.errorString") (by rw [fr_star]; kernel_rfl) (by kernel_rfl) (by decide) u (by rw [fr_star]; exact h)
abbrev fr_list : List (String × DataW Unit) := [("math/bits.deBruijn32tab", Rows.laid_math_bits_deBruijn32tab), ("math/bits.deBruijn64tab", Rows.laid_math_bits_deBruijn64tab), ("internal/strconv.uint64pow10", Rows.laid_internal_strconv_uint64pow10), ("strconv.ErrRange", Rows.laid_strconv_ErrRange), ("strconv.ErrSyntax", Rows.laid_strconv_ErrSyntax)]
theorem fr_tab:(Rows.laid_internal_strconv_uint64pow10:DataW Unit)=Lib.tabData .u64 Lib.pow10Tab:=by kernel_rfl
theorem laid_of {W:World} (h:laidMetH Tryz.prog fr_list W):Laid W:=by
 rw [MakeChecks.laidMetH_plain _ _ _ (by kernel_rfl)] at h
 have h3:=h.tail.tail
 rw [fr_tab] at h3
 refine ⟨Lib.tabIs_of_head fr_pow fr_powT Tryz.underlying383 Tryz.underlying247 fr_cu fr_c20 h3,?_⟩
 obtain ⟨a,s,hv,_⟩:=laid_sentinel h3.tail fr_rng fr_rngT Tryz.underlying211 fr_ptr Tryz.underlying377 Tryz.underlying379 rfl rfl Tryz.underlying9 fr_cE fr_cS
 exact ⟨_,_,hv⟩
theorem door_met (os:Os) (args:Array Value):laidMetH Tryz.prog fr_list ((World.doorLaid Tryz.prog 400 os).forCall (fun _ _=>0) ⟨#[],args,[]⟩).memory :=
 laidMetH_of_parts3 (fuel:=8) (laidMet_of_run' 8 (by kernel_rfl) (by kernel_rfl)) (by kernel_rfl) (by kernel_rfl)
theorem fr_c8:Tryz.prog.cellsOf 51=1:=by kernel_rfl
theorem take_one {l:List Value} {k:Nat} {x:Value} (h:(l.drop k).take 1=[x]):l[k]? = some x:=by
 have:=congrArg (·[0]?) h
 simpa [List.getElem?_take] using this
theorem i8_bounds {n:Int} (h:(Lit.int .i8 n).wf=true) : -128≤n∧n≤127:=by
 simp only [Lit.wf,Bool.and_eq_true,decide_eq_true_eq] at h
 have e1:IntKind.i8.min = -128:=by rfl
 have e2:IntKind.i8.max=127:=by rfl
 omega
theorem u8_bounds {n:Int} (h:(Lit.int .u8 n).wf=true):0≤n∧n≤255:=by
 simp only [Lit.wf,Bool.and_eq_true,decide_eq_true_eq] at h
 have e1:IntKind.u8.min=0:=by rfl
 have e2:IntKind.u8.max=255:=by rfl
 omega
theorem i8_cells {H:Type} {enc:TypeId×Value→H} {W:World} {base:Nat} {sp:Nat→Bool} {held:Bool} {fuel n:Nat} {t:TypeId} {l:List Value} {x:DataW H×List MemPlace} (ht:Tryz.prog.underlying t=some (.array n 51))
  (h:DataW.trod enc Tryz.prog W base sp held fuel t l=some x) : ∀ j,j<n → ∃ z:Int,l[j]? = some (.int .i8 z) ∧ -128≤z∧z≤127:=by
 obtain ⟨xs,m,_,_,_,hxl,hx⟩:=DataW.trod_array ht h
 intro j hj
 have h1:=hx j hj
 rw [fr_c8,Nat.mul_one,List.getElem?_eq_getElem (by omega)] at h1
 obtain ⟨z,hz,_,hw⟩:=DataW.trod_int Tryz.underlying51 h1
 exact ⟨z,take_one hz,i8_bounds hw⟩
theorem fr_cA4:Tryz.prog.cellsOf 120=4:=by kernel_rfl
theorem cells_four {W:World} {base:Nat} {a:Addr} {l:List Value} (h:W.cells? base a 4=some l) : ∀ j,j<4→W.cell? (a.add j)=l[j]? := by
 unfold World.cells? at h
 split at h
 case isFalse=>cases h
 intro j hj
 have hj2:=Go.mapM_some_get h j
 have hl:l.length=4:=by
  have:=Go.mapM_some_length h
  simpa using this
 have h0:=hj2 j (by simp [hj])
 simpa using h0
theorem rowsA_open {H:Type} {enc:TypeId×Value→H} {W:World} {base:Nat} {held:Bool} {fuel:Nat} {l:List Value} {x:DataW H×List MemPlace}
  (h:DataW.trod enc Tryz.prog W base (fun _=>true) held fuel 22 l=some x) : ∃ v Z,l=[v]∧RowsA W v Z:=by
 rcases open_slice Tryz.underlying22 h with ⟨hcs,_⟩ | ⟨a,len,cap,m,n,D,Pl,hcs,_,hl,hmx,hm,_,hel⟩
 ·exact ⟨.slice none 0 0,[],hcs,none,0,0,0,rfl,Nat.le_refl _,fun h=>by simp at h,fun i h=>by simp at h,fun i h=>by simp at h⟩
 ·rw [if_pos rfl] at hm
  subst hm
  rw [fr_cA4] at hel
  have hex : ∀ i,i<len → ∃ zs:List Int,(zs.length=4 ∧ ∀ z∈zs,-128≤z∧z≤127) ∧ ∀ j,j<4→W.cell? (a.add (i*4+j))=some (.int .i8 (zs.getD j 0)):=by
   intro i hi
   obtain ⟨cs',h1,h2⟩:=hel i (by omega)
   have h3:=i8_cells Tryz.underlying120 h2
   have h4:=cells_four h1
   obtain ⟨z0,k0,b0⟩:=h3 0 (by omega)
   obtain ⟨z1,k1,b1⟩:=h3 1 (by omega)
   obtain ⟨z2,k2,b2⟩:=h3 2 (by omega)
   obtain ⟨z3,k3,b3⟩:=h3 3 (by omega)
   refine ⟨[z0,z1,z2,z3],⟨rfl,fun z hz => ?_⟩,fun j hj => ?_⟩
   ·simp only [List.mem_cons,List.not_mem_nil,or_false] at hz
    rcases hz with rfl | rfl | rfl | rfl <;> assumption
   ·rw [← add_add,h4 j hj]
    rcases (show j=0∨j=1∨j=2∨j=3 by omega) with rfl | rfl | rfl | rfl
    ·exact k0
    ·exact k1
    ·exact k2
    ·exact k3
  obtain ⟨f,hf⟩:=choose_lt hex
  have hsp:0<len→a.spot=none:=fun h=>by simpa [Addr.add] using World.cell?_spot ((hf 0 h).2 0 (by omega))
  obtain ⟨b,o,sp⟩:=a
  refine ⟨_,(List.range len).map f,hcs,some ⟨b,o,sp⟩,b,o,m,by simp,by simpa using hl,fun h => ?_,fun i hi => ?_,fun i hi j hj => ?_⟩
  ·have:=hsp (by simpa using h)
   simp at this
   rw [this]
  ·have hi':i<len:=by simpa using hi
   simpa using (hf i hi').1
  ·have hi':i<len:=by simpa using hi
   have:=hsp (by omega)
   simp at this
   subst this
   have k1:=(hf i hi').2 j hj
   rw [add_plain] at k1
   rw [show o+4*i+j=o+(i*4+j) by omega,k1]
   simp
theorem list3t {l:List Value} {a b c:Value} (hl:l.length=3) (h0:(l.drop 0).take 1=[a]) (h1:(l.drop 1).take 1=[b]) (h2:(l.drop 2).take 1=[c]):l=[a,b,c]:=by
 match l,hl with
 | [p,q,r],_ =>
  simp at h0 h1 h2
  subst h0 h1 h2
  rfl
theorem plan18_open {H:Type} {enc:TypeId×Value→H} {W:World} {base:Nat} {held:Bool} {fuel:Nat} {cs:Array Value} {x:DataW H×List MemPlace} (hs:cs.size=3)
  (h:DataW.trod enc Tryz.prog W base (fun _=>true) held fuel 24 cs.toList=some x) : ∃ b rv vals Z,cs = #[.int .u8 b,rv,.bool vals]∧(0≤b∧b≤255)∧RowsA W rv Z:=by
 obtain ⟨xs,n,_,_,_,hxl,hx⟩:=DataW.trod_struct Tryz.underlying24 h
 have hx3:xs.length=3:=hxl
 have h0:=hx 0 _ rfl
 have h1:=hx 1 _ rfl
 have h2:=hx 2 _ rfl
 rw [List.getElem?_eq_getElem (by omega)] at h0 h1 h2
 have h0':DataW.trod enc Tryz.prog W base (fun _=>true) held n 5 ((cs.toList.drop 0).take 1)=some xs[0]:=h0
 have h1':DataW.trod enc Tryz.prog W base (fun _=>true) held n 22 ((cs.toList.drop 1).take 1)=some xs[1]:=h1
 have h2':DataW.trod enc Tryz.prog W base (fun _=>true) held n 4 ((cs.toList.drop 2).take 1)=some xs[2]:=h2
 obtain ⟨b,hb,_,wb⟩:=DataW.trod_int Tryz.underlying5 h0'
 obtain ⟨v,Z,hv,hZ⟩:=rowsA_open h1'
 obtain ⟨vals,hvl,_⟩:=DataW.trod_bool Tryz.underlying4 h2'
 have hl:=list3t (by simpa using hs) hb hv hvl
 exact ⟨b,v,vals,Z,by rw [show cs=cs.toList.toArray from Array.toArray_toList.symm,hl],u8_bounds wb,hZ⟩
end Go.Proofs.YtjnpakablgommaaGreatDoor
