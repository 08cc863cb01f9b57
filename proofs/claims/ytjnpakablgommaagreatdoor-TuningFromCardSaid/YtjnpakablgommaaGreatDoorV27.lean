/- Part 27 of the proof of the claim: contracts of the functions that it reaches, and plain laws; no condition. -/
import Derived.Test.YtjnpakablgommaaGreatDoorV25
import Derived.Test.YtjnpakablgommaaGreatDoorV26
import Derived.Test.YtjnpakablgommaaGreatDoorV15
import Derived.Test.YtjnpakablgommaaGreatDoorV14
import Derived.BigQuiet
set_option maxRecDepth 100000
namespace Go.Proofs.YtjnpakablgommaaGreatDoor
open Go.RowKit Go.Sort
theorem isH_len {n:Nat} {ps:List Nat} {F:Mx} (h:IsH n ps F):F.length≤n:=by
 have hge : ∀ i,i<F.length→i≤ps.getD i 0:=by
  intro i
  induction i with
  | zero=>intro _; omega
  | succ i ih =>
   intro hi
   have:=ih (by omega)
   have:=h.inc i (i+1) (by omega) hi
   omega
 rcases Nat.eq_zero_or_pos F.length with h0 | h0
 ·omega
 ·have h1:=hge (F.length-1) (by omega)
  have h2:=h.lt (F.length-1) (by omega)
  omega
def SmK (K:Mx):Prop := ∀ r∈K,∀ z∈r,-1000000000≤z∧z≤1000000000
theorem SmK.small {K:Mx} (h:SmK K) : ∀ r∈K,smallB r=true:=fun r hr=>small_yes (fun t ht=>by
 have:=h r hr _ (List.getElem_mem ht)
 unfold grt
 exact decide_eq_false (by omega))
theorem SmK.nd {K:Mx} (h:SmK K) : ∀ r∈K,∀ z∈r,nd z≤LIM:=fun r hr z hz=>by
 have:=h r hr z hz
 have h2:z.natAbs<2^30:=by
  have e:(2:Nat)^30=1073741824:=by decide
  omega
 have:=nd_lt2 h2
 have e:LIM=1000000000000:=rfl
 omega
def LatPost (w:World) (n:Nat) (P:Mx→Prop) (e:Ending) (w':World):Prop := ∃ v' K,e = .returned (.tuple #[latv n v',.int .i64 0])∧MatO w.heap.size w' v' K∧P K∧Ext w w'
theorem MatO.slice {B:Nat} {w:World} {v:Value} {F:Mx} (h:MatO B w v F) : ∃ a l k,v = .slice a l k:=by
 obtain ⟨vs0,_,h2,_⟩:=h
 rcases h2.2 with ⟨rfl,_⟩ | ⟨g,cap,cur,rfl,_⟩
 ·exact ⟨_,_,_,rfl⟩
 ·exact ⟨_,_,_,rfl⟩
set_option maxHeartbeats 4000000 in
theorem annih_ok {w:World} {v:Value} {F:Mx} {n:Nat} {ps:List Nat} (hM:MatR w v F) (hI:IsH n ps F) (h0:0<n) (hn:n≤4) (hs:SmK F) (hk : ∀ K,KerL n (latM F) K→SmK K) (hL:Laid w) :
  Calls Tryz.prog 134 #[latv n v] w (LatPost w n (KerL n (latM F))):=by
 have hlen:=isH_len hI
 have hck:=Lib.hid (fun W (hW:Ext w W)=>latCheck_ok (hM.ext hW) hI (by omega) (by omega) hs)
 have hlo:=Lib.hid (fun W (hW:Ext w W)=>longsOf_any (hM.ext hW) hI.rect h0 (by omega) (by omega) (fun r hr z hz=>by have:=hs r hr z hz; unfold I64; omega) (hL.ext hW))
 have hk1:=Lib.hid (fun W v1 (hW:Ext w W) (h:LgsR W v1 F)=>lkernel_any h hI.rect h0 hn (by omega) hs (hL.ext hW))
 have hsh:=Lib.hid (fun W v1 K (hW:Ext w W) (h:LgsR W v1 K) (hK:KerL n (latM F) K)=>by
  obtain ⟨qs,hq⟩:=hK.1
  have:=isH_len hq
  exact lsshort_ok (n:=n) h hq.rect (by omega) (by omega) (hk K hK).small (hk K hK).nd (hL.ext hW))
 obtain ⟨sa,gb,go,cap,vs,rfl,_⟩:=hM
 obtain ⟨L,hLe⟩ : ∃ L,L=F.length:=⟨_,rfl⟩
 rw [← hLe] at hck hlo ⊢
 have hX:Ext w ((w.alloc (.cells #[.int .i64 n,.slice sa L cap] 204)).alloc (.cells #[.int .i64 0,.slice none 0 0] 204)):=((Ext.refl w).alloc _).alloc _
 have x0:((w.alloc (.cells #[.int .i64 n,.slice sa L cap] 204)).alloc (.cells #[.int .i64 0,.slice none 0 0] 204)).cell? ⟨w.heap.size,0,none⟩=some (.int .i64 n):=by go_simp
 have x1:((w.alloc (.cells #[.int .i64 n,.slice sa L cap] 204)).alloc (.cells #[.int .i64 0,.slice none 0 0] 204)).cell? ⟨w.heap.size,1,none⟩=some (.slice sa L cap):=by go_simp
 have HO:=Lib.hid (lat_alloc2 w (.cells #[.int .i64 n,.slice sa L cap] 204) 204 (.int .i64 0) (.slice none 0 0))
 obtain ⟨bl,hbl⟩ : ∃ bl,bl=w.heap.size:=⟨_,rfl⟩
 obtain ⟨b2,hb2⟩ : ∃ b2,b2=w.heap.size+1:=⟨_,rfl⟩
 rw [← hb2] at HO
 rw [← hbl] at x0 x1
 have hbs2:w.heap.size≤b2:=by omega
 clear hI hs hL hlen hLe
 go_enter Tryz.func134,Tryz.ntmps134
 go_wp2_with fail
 rw [← hb2, ← hbl]
 clear hb2 hbl
 refine (hck.out _ hX).mono ?_
 rintro e X ⟨rfl,hE1⟩
 replace x0:=hE1.cell x0
 replace x1:=hE1.cell x1
 replace HO:=Lib.hid (HO.out.ext hE1)
 replace hX:=hX.trans hE1
 clear hE1 hck
 go_wp2_with fail
 have dd:Ext X X.drew:=(Ext.refl X).drew
 refine wp_region_held_tail (S:=fun W=>Ext X W) 11 (by kernel_rfl) (by simp) ?_
 intro inv
 refine wpAnyLH_take (i:=0) (v := .pointer (some ⟨bl,1,none⟩)) rfl (by kernel_rfl) (fun _ _ _ h=>h) (.inl ⟨by rfl,fun W hW=>by go_simp⟩) dd inv ?_
 intro inv
 go_simp
 refine wpAnyLH_take (i:=1) (v := .slice sa L cap) rfl (by kernel_rfl) (fun _ _ _ h=>h) (.inl ⟨by rfl,fun W hW=>by have z0:=hW.cell x1; go_simp⟩) dd inv ?_
 intro inv
 go_simp
 refine wpAnyLH_take (i:=3) (v := .pointer (some ⟨bl,0,none⟩)) rfl (by kernel_rfl) (fun _ _ _ h=>h) (.inl ⟨by rfl,fun W hW=>by go_simp⟩) dd inv ?_
 intro inv
 go_simp
 refine wpAnyLH_take (i:=4) (v := .int .i64 n) rfl (by kernel_rfl) (fun _ _ _ h=>h) (.inl ⟨by rfl,fun W hW=>by have z0:=hW.cell x0; go_simp⟩) dd inv ?_
 intro inv
 go_simp
 refine wpAnyLH_take (i:=6) (v := .pointer (some ⟨bl,0,none⟩)) rfl (by kernel_rfl) (fun _ _ _ h=>h) (.inl ⟨by rfl,fun W hW=>by go_simp⟩) dd inv ?_
 intro inv
 go_simp
 refine wpAnyLH_take (i:=7) (v := .int .i64 n) rfl (by kernel_rfl) (fun _ _ _ h=>h) (.inl ⟨by rfl,fun W hW=>by have z0:=hW.cell x0; go_simp⟩) dd inv ?_
 intro inv
 go_simp
 refine wpAnyLH_oneI (i:=2) rfl (by kernel_rfl) inv (fun inv K0 hK0 => ?_)
 go_simp
 refine (hlo.out _ (hX.trans dd)).mono ?_
 rintro e W1 ⟨v1,ad1,rfl,hg1,hF1⟩
 have e1:=dd.trans hF1
 have HG1:=Lib.hid hg1.gridR
 refine hK0 _ _ e1 ?_
 clear hK0 hg1
 refine wpAnyLH_oneI (i:=5) rfl (by kernel_rfl) inv (fun inv K1 hK1 => ?_)
 go_simp
 refine (hk1.out _ _ (hX.trans e1) HG1.out).mono ?_
 rintro e W2 ⟨v2,KK,rfl,hg2,hKer,hF2⟩
 have e2:=e1.trans hF2
 have HG2:=Lib.hid hg2
 have HKer:=Lib.hid hKer
 refine hK1 _ _ e2 ?_
 clear hK1 hg2 hKer
 refine wpAnyLH_oneI (i:=8) rfl (by kernel_rfl) inv (fun inv K4 hK4 => ?_)
 go_simp
 refine (hsh.out _ _ _ (hX.trans e2) HG2.out HKer.out).mono ?_
 rintro e W5 ⟨v5,rfl,hm5,hF5⟩
 have e5:=e2.trans hF5
 obtain ⟨xa,xl,xk,rfl⟩:=hm5.slice
 have Hm5:=Lib.hid (hm5.mono (hX.trans e2).size)
 refine hK4 _ _ e5 ?_
 clear hK4 hm5
 refine wpAnyLH_take (i:=9) (v:=latv n (.slice xa xl xk)) rfl (by kernel_rfl) (fun _ _ _ h=>h) (.inl ⟨by rfl,fun W hW=>by go_simp⟩) e5 inv ?_
 intro inv
 go_simp
 refine wpAnyLH_take (i:=10) (v := .int .i64 0) rfl (by kernel_rfl) (fun _ _ _ h=>h) (.inl ⟨by rfl,fun W hW=>by go_simp⟩) e5 inv ?_
 intro inv
 go_simp
 refine wpAnyLH_end (by kernel_rfl) ?_
 replace HO:=Lib.hid (HO.out.ext e5)
 replace hX:=hX.trans e5
 obtain ⟨q0,q1,f0,f1,r0,r1,hF,hG⟩:=lat_end hX hbs2 HO.out (.int .i64 n) (.slice xa xl xk)
 have HMf:=Lib.hid (mat_kept2 Hm5.out HO.out (by decide) (by decide) hG)
 have Hres:=Lib.hid (show LatPost w n (KerL n (latM F)) (.returned (.tuple #[latv n (.slice xa xl xk),.int .i64 0])) _ from ⟨_,KK,rfl,HMf.out,HKer.out,hF.out⟩)
 clear hG HMf
 go_wp2_with fail
 refine bodyPost_ret (v := .tuple #[latv n (.slice xa xl xk),.int .i64 0]) (by simp [results,Tryz.results134,go_sem,r0,r1]) rfl Hres.out
set_option maxHeartbeats 4000000 in
theorem satur_ok {w:World} {v:Value} {F:Mx} {n:Nat} {ps:List Nat} (hM:MatR w v F) (hI:IsH n ps F) (h0:0<n) (hn:n≤4) (hs:SmK F) (hk : ∀ K,KerL n (latM F) K→SmK K) (hk2s : ∀ K S,KerL n (latM F) K→KerL n (latM K) S→SmK S) (hL:Laid w) :
  Calls Tryz.prog 133 #[latv n v] w (LatPost w n (fun S => ∃ K,KerL n (latM F) K∧KerL n (latM K) S)):=by
 have hlen:=isH_len hI
 have hck:=Lib.hid (fun W (hW:Ext w W)=>latCheck_ok (hM.ext hW) hI (by omega) (by omega) hs)
 have hlo:=Lib.hid (fun W (hW:Ext w W)=>longsOf_any (hM.ext hW) hI.rect h0 (by omega) (by omega) (fun r hr z hz=>by have:=hs r hr z hz; unfold I64; omega) (hL.ext hW))
 have hk1:=Lib.hid (fun W v1 (hW:Ext w W) (h:LgsR W v1 F)=>lkernel_any h hI.rect h0 hn (by omega) hs (hL.ext hW))
 have hk2:=Lib.hid (fun W v1 K (hW:Ext w W) (h:LgsR W v1 K) (hK:KerL n (latM F) K)=>by
  obtain ⟨qs,hq⟩:=hK.1
  have:=isH_len hq
  exact lkernel_any h hq.rect h0 hn (by omega) (hk K hK) (hL.ext hW))
 have hsh:=Lib.hid (fun W v1 K S (hW:Ext w W) (h:LgsR W v1 S) (hK:KerL n (latM F) K) (hS:KerL n (latM K) S)=>by
  obtain ⟨qs,hq⟩:=hS.1
  have:=isH_len hq
  exact lsshort_ok (n:=n) h hq.rect (by omega) (by omega) (hk2s K S hK hS).small (hk2s K S hK hS).nd (hL.ext hW))
 obtain ⟨sa,gb,go,cap,vs,rfl,_⟩:=hM
 obtain ⟨L,hLe⟩ : ∃ L,L=F.length:=⟨_,rfl⟩
 rw [← hLe] at hck hlo ⊢
 have hX:Ext w ((w.alloc (.cells #[.int .i64 n,.slice sa L cap] 204)).alloc (.cells #[.int .i64 0,.slice none 0 0] 204)):=((Ext.refl w).alloc _).alloc _
 have x0:((w.alloc (.cells #[.int .i64 n,.slice sa L cap] 204)).alloc (.cells #[.int .i64 0,.slice none 0 0] 204)).cell? ⟨w.heap.size,0,none⟩=some (.int .i64 n):=by go_simp
 have x1:((w.alloc (.cells #[.int .i64 n,.slice sa L cap] 204)).alloc (.cells #[.int .i64 0,.slice none 0 0] 204)).cell? ⟨w.heap.size,1,none⟩=some (.slice sa L cap):=by go_simp
 have HO:=Lib.hid (lat_alloc2 w (.cells #[.int .i64 n,.slice sa L cap] 204) 204 (.int .i64 0) (.slice none 0 0))
 obtain ⟨bl,hbl⟩ : ∃ bl,bl=w.heap.size:=⟨_,rfl⟩
 obtain ⟨b2,hb2⟩ : ∃ b2,b2=w.heap.size+1:=⟨_,rfl⟩
 rw [← hb2] at HO
 rw [← hbl] at x0 x1
 have hbs2:w.heap.size≤b2:=by omega
 clear hI hs hL hlen hLe
 go_enter Tryz.func133,Tryz.ntmps133
 go_wp2_with fail
 rw [← hb2, ← hbl]
 clear hb2 hbl
 refine (hck.out _ hX).mono ?_
 rintro e X ⟨rfl,hE1⟩
 replace x0:=hE1.cell x0
 replace x1:=hE1.cell x1
 replace HO:=Lib.hid (HO.out.ext hE1)
 replace hX:=hX.trans hE1
 clear hE1 hck
 go_wp2_with fail
 have dd:Ext X X.drew:=(Ext.refl X).drew
 refine wp_region_held_tail (S:=fun W=>Ext X W) 14 (by kernel_rfl) (by simp) ?_
 intro inv
 refine wpAnyLH_take (i:=0) (v := .pointer (some ⟨bl,1,none⟩)) rfl (by kernel_rfl) (fun _ _ _ h=>h) (.inl ⟨by rfl,fun W hW=>by go_simp⟩) dd inv ?_
 intro inv
 go_simp
 refine wpAnyLH_take (i:=1) (v := .slice sa L cap) rfl (by kernel_rfl) (fun _ _ _ h=>h) (.inl ⟨by rfl,fun W hW=>by have z0:=hW.cell x1; go_simp⟩) dd inv ?_
 intro inv
 go_simp
 refine wpAnyLH_take (i:=3) (v := .pointer (some ⟨bl,0,none⟩)) rfl (by kernel_rfl) (fun _ _ _ h=>h) (.inl ⟨by rfl,fun W hW=>by go_simp⟩) dd inv ?_
 intro inv
 go_simp
 refine wpAnyLH_take (i:=4) (v := .int .i64 n) rfl (by kernel_rfl) (fun _ _ _ h=>h) (.inl ⟨by rfl,fun W hW=>by have z0:=hW.cell x0; go_simp⟩) dd inv ?_
 intro inv
 go_simp
 refine wpAnyLH_take (i:=6) (v := .pointer (some ⟨bl,0,none⟩)) rfl (by kernel_rfl) (fun _ _ _ h=>h) (.inl ⟨by rfl,fun W hW=>by go_simp⟩) dd inv ?_
 intro inv
 go_simp
 refine wpAnyLH_take (i:=7) (v := .int .i64 n) rfl (by kernel_rfl) (fun _ _ _ h=>h) (.inl ⟨by rfl,fun W hW=>by have z0:=hW.cell x0; go_simp⟩) dd inv ?_
 intro inv
 go_simp
 refine wpAnyLH_take (i:=9) (v := .pointer (some ⟨bl,0,none⟩)) rfl (by kernel_rfl) (fun _ _ _ h=>h) (.inl ⟨by rfl,fun W hW=>by go_simp⟩) dd inv ?_
 intro inv
 go_simp
 refine wpAnyLH_take (i:=10) (v := .int .i64 n) rfl (by kernel_rfl) (fun _ _ _ h=>h) (.inl ⟨by rfl,fun W hW=>by have z0:=hW.cell x0; go_simp⟩) dd inv ?_
 intro inv
 go_simp
 refine wpAnyLH_oneI (i:=2) rfl (by kernel_rfl) inv (fun inv K0 hK0 => ?_)
 go_simp
 refine (hlo.out _ (hX.trans dd)).mono ?_
 rintro e W1 ⟨v1,ad1,rfl,hg1,hF1⟩
 have e1:=dd.trans hF1
 have HG1:=Lib.hid hg1.gridR
 refine hK0 _ _ e1 ?_
 clear hK0 hg1
 refine wpAnyLH_oneI (i:=5) rfl (by kernel_rfl) inv (fun inv K1 hK1 => ?_)
 go_simp
 refine (hk1.out _ _ (hX.trans e1) HG1.out).mono ?_
 rintro e W2 ⟨v2,KK,rfl,hg2,hKer,hF2⟩
 have e2:=e1.trans hF2
 have HG2:=Lib.hid hg2
 have HKer:=Lib.hid hKer
 refine hK1 _ _ e2 ?_
 clear hK1 hg2 hKer
 refine wpAnyLH_oneI (i:=8) rfl (by kernel_rfl) inv (fun inv K2 hK2 => ?_)
 go_simp
 refine (hk2.out _ _ _ (hX.trans e2) HG2.out HKer.out).mono ?_
 rintro e W3 ⟨v3,SS,rfl,hg3,hKer2,hF3⟩
 have e3:=e2.trans hF3
 have HG3:=Lib.hid hg3
 have HKer2:=Lib.hid hKer2
 refine hK2 _ _ e3 ?_
 clear hK2 hg3 hKer2
 refine wpAnyLH_oneI (i:=11) rfl (by kernel_rfl) inv (fun inv K4 hK4 => ?_)
 go_simp
 refine (hsh.out _ _ _ _ (hX.trans e3) HG3.out HKer.out HKer2.out).mono ?_
 rintro e W5 ⟨v5,rfl,hm5,hF5⟩
 have e5:=e3.trans hF5
 obtain ⟨xa,xl,xk,rfl⟩:=hm5.slice
 have Hm5:=Lib.hid (hm5.mono (hX.trans e3).size)
 refine hK4 _ _ e5 ?_
 clear hK4 hm5
 refine wpAnyLH_take (i:=12) (v:=latv n (.slice xa xl xk)) rfl (by kernel_rfl) (fun _ _ _ h=>h) (.inl ⟨by rfl,fun W hW=>by go_simp⟩) e5 inv ?_
 intro inv
 go_simp
 refine wpAnyLH_take (i:=13) (v := .int .i64 0) rfl (by kernel_rfl) (fun _ _ _ h=>h) (.inl ⟨by rfl,fun W hW=>by go_simp⟩) e5 inv ?_
 intro inv
 go_simp
 refine wpAnyLH_end (by kernel_rfl) ?_
 replace HO:=Lib.hid (HO.out.ext e5)
 replace hX:=hX.trans e5
 obtain ⟨q0,q1,f0,f1,r0,r1,hF,hG⟩:=lat_end hX hbs2 HO.out (.int .i64 n) (.slice xa xl xk)
 have HMf:=Lib.hid (mat_kept2 Hm5.out HO.out (by decide) (by decide) hG)
 have Hres:=Lib.hid (show LatPost w n (fun S => ∃ K,KerL n (latM F) K∧KerL n (latM K) S) (.returned (.tuple #[latv n (.slice xa xl xk),.int .i64 0])) _ from ⟨_,SS,rfl,HMf.out,⟨KK,HKer.out,HKer2.out⟩,hF.out⟩)
 clear hG HMf
 go_wp2_with fail
 refine bodyPost_ret (v := .tuple #[latv n (.slice xa xl xk),.int .i64 0]) (by simp [results,Tryz.results133,go_sem,r0,r1]) rfl Hres.out
theorem bc_num1 : ∀ (N n:Fin 5),2*(2*bC N.val 30 n.val+2)+2<LIM:=by decide +kernel
theorem ln1_all {M:Mx} (h : ∀ r∈M,∀ z∈r,z.natAbs<2^30):AllL 30 (ln1 M):=fun i hi=>by
 have hi':i<M.length:=by simpa using hi
 rw [getD_get hi]
 have:(ln1 M)[i]=(M[i],[]):=by simp [ln1]
 rw [this]
 exact ⟨fun z hz=>h _ (List.getElem_mem hi') z hz,fun z hz=>by simp at hz⟩
theorem hnf_none (n:Nat):HnfOf n [] []:=form_of1 (M:=[]) (ls:=[]) (ps:=[]) (d:=0) (fun r h=>by simp at h) (Ops.refl _) ((FormTo.start []).full rfl (Nat.zero_le n))
theorem lform_mx {w0 w:World} {v:Value} {M:Mx} {ad:List (Nat×Nat)} {n:Nat} (h:LrX w0.heap.size w v M ad) (hR:Rect n M) (hb : ∀ r∈M,∀ z∈r,z.natAbs<2^30) (h0:0<n) (hn:n≤4) (hl:M.length≤4) (hL:Laid w0) (hE:Ext w0 w) :
  Calls Tryz.prog 195 #[v,.int .i64 n] w fun e w' => ∃ v' F,e = .returned v'∧HnfOf n M F∧LgsR w' v' F∧Ext w0 w':=by
 obtain ⟨ga,cap,rfl,hcap,hga⟩:=h.shape
 rcases Nat.eq_zero_or_pos M.length with h00 | h00
 ·obtain rfl:M=[]:=List.length_eq_zero_iff.1 h00
  have hnil : ∀ (sa:Option Addr) (c:Nat) (W:World),LgsR W (.slice sa 0 c) []:=fun sa c W=>⟨sa,0,0,c,[],rfl,Nat.zero_le _,rfl,⟨fun h=>by simp at h,fun i v hv=>by simp at hv⟩,fun i hi=>by simp at hi⟩
  rcases h.own.2 with ⟨hv,_⟩ | ⟨g,cap',cur,hv,_⟩
  ·rw [hv]
   refine lform_nil.mono ?_
   rintro e W1 ⟨rfl,hE1⟩
   exact ⟨_,_,rfl,hnf_none n,hnil _ _ _,hE.trans hE1⟩
  ·rw [hv]
   refine lform_none.mono ?_
   rintro e W1 ⟨rfl,hE1⟩
   exact ⟨_,_,rfl,hnf_none n,hnil _ _ _,hE.trans hE1⟩
 ·obtain ⟨g,rfl⟩:=hga h00
  have hG:Lr w0.heap.size w g cap M.length n ad (ln1 M):=⟨by rw [rowsL_ln1]; exact h,by simp,ln1_dim hR⟩
  have hbc:=bc_num1 ⟨M.length,by omega⟩ ⟨n,by omega⟩
  refine (lform_any (w0:=w0) (w:=w) hG h00 h0 (by omega) (by omega) hcap (ln1_all hb) hbc hL hE).mono ?_
  rintro e W1 ⟨d,ps,ad',ls',rfl,hd,hG1,hF,hOp,hAl,hE1⟩
  exact ⟨_,_,rfl,form_of1 hR hOp hF,hG1.lgsTake h0 hd (by omega),hE1⟩
set_option maxHeartbeats 4000000 in
theorem Of_ok {w:World} {v:Value} {M:Mx} {n:Nat} (hM:MatR w v M) (hR : ∀ r∈M,chkRow r=0∧r.length=n) (h0:0<n) (hn:n≤4) (hl:M.length≤4) (hs:SmK M) (hk : ∀ K,HnfOf n M K→SmK K) (hL:Laid w) :
  Calls Tryz.prog 132 #[.int .i64 n,v] w (LatPost w n (HnfOf n M)):=by
 have hre:Rect n M:=fun r hr=>(hR r hr).2
 have hck:=Lib.hid (fun W (hW:Ext w W)=>lat_check_ok (hM.ext hW) hR (by omega) (by omega))
 have hlo:=Lib.hid (fun W (hW:Ext w W)=>longsOf_any (hM.ext hW) hre h0 (by omega) (by omega) (fun r hr z hz=>by have:=hs r hr z hz; unfold I64; omega) (hL.ext hW))
 have hfo:=Lib.hid (fun W W2 v1 ad (hW:Ext w W) (hW2:Ext W W2) (h:LrX W.heap.size W2 v1 M ad)=>lform_mx h hre (fun r hr z hz=>by
  have:=hs r hr z hz
  have e:(2:Nat)^30=1073741824:=by decide
  omega) h0 hn hl (hL.ext hW) hW2)
 have hsh:=Lib.hid (fun W v1 K (hW:Ext w W) (h:LgsR W v1 K) (hK:HnfOf n M K)=>by
  obtain ⟨qs,hq⟩:=hK.1
  have:=isH_len hq
  exact lsshort_ok (n:=n) h hq.rect (by omega) (by omega) (hk K hK).small (hk K hK).nd (hL.ext hW))
 have hX:Ext w (w.alloc (.cells #[.int .i64 0,.slice none 0 0] 204)):=(Ext.refl w).alloc _
 have HO:=Lib.hid (lat_alloc w 204 (.int .i64 0) (.slice none 0 0))
 obtain ⟨bl,hbl⟩ : ∃ bl,bl=w.heap.size:=⟨_,rfl⟩
 have hbs2:w.heap.size≤bl:=by omega
 rw [show OwnV 204 w.heap.size (w.alloc (.cells #[.int .i64 0,.slice none 0 0] 204)) w.heap.size 2 [.int .i64 0,.slice none 0 0]=OwnV 204 w.heap.size (w.alloc (.cells #[.int .i64 0,.slice none 0 0] 204)) bl 2 [.int .i64 0,.slice none 0 0] by rw [hbl]] at HO
 clear hs hL hre hR
 go_enter Tryz.func132,Tryz.ntmps132
 go_wp2_with fail
 rw [← hbl]
 clear hbl
 refine (hck.out _ hX).mono ?_
 rintro e X ⟨rfl,hE1⟩
 replace HO:=Lib.hid (HO.out.ext hE1)
 replace hX:=hX.trans hE1
 clear hE1 hck
 go_wp2_with fail
 refine (hlo.out _ hX).mono ?_
 rintro e W1 ⟨v1,ad1,rfl,hg1,hF1⟩
 have hf:=Lib.hid (hfo.out _ _ _ _ hX hF1 hg1)
 clear hg1 hlo
 go_wp2_with fail
 refine hf.out.mono ?_
 rintro e W2 ⟨v2,K,rfl,hK,hg2,hF2⟩
 have HK:=Lib.hid hK
 have hs2:=Lib.hid (hsh.out _ _ _ (hX.trans hF2) hg2 hK)
 clear hK hg2 hsh hf hfo
 go_wp2_with fail
 refine hs2.out.mono ?_
 rintro e W5 ⟨v5,rfl,hm5,hF5⟩
 have e5:=hF2.trans hF5
 obtain ⟨xa,xl,xk,rfl⟩:=hm5.slice
 have Hm5:=Lib.hid (hm5.mono (hX.trans hF2).size)
 clear hm5 hs2
 replace HO:=Lib.hid (HO.out.ext e5)
 replace hX:=hX.trans e5
 obtain ⟨q0,q1,f0,f1,r0,r1,hF,hG⟩:=lat_end hX hbs2 HO.out (.int .i64 n) (.slice xa xl xk)
 have HMf:=Lib.hid (mat_kept2 Hm5.out HO.out (by decide) (by decide) hG)
 have Hres:=Lib.hid (show LatPost w n (HnfOf n M) (.returned (.tuple #[latv n (.slice xa xl xk),.int .i64 0])) _ from ⟨_,K,rfl,HMf.out,HK.out,hF.out⟩)
 clear hG HMf
 go_wp2_with fail
 refine bodyPost_ret (v := .tuple #[latv n (.slice xa xl xk),.int .i64 0]) (by simp [results,Tryz.results132,go_sem,r0,r1]) rfl Hres.out
theorem mxf_getD_ext {a b:Mx} (hl:a.length=b.length) (h : ∀ j,j<a.length→a.getD j []=b.getD j []):a=b:=by
 apply List.ext_getElem hl
 intro i h1 h2
 have:=h i h1
 rwa [getD_get h1,getD_get h2] at this
theorem tmpEq1_any {w:World} {va vb:Value} {a b:List Int} (hA:RowR w va a) (hB:RowR w vb b) (hbig:a.length≤1000000) :
  Calls Tryz.prog 207 #[va,vb] w fun e w'=>e = .returned (.bool (decide (a=b)))∧Ext w w':=by
 have h:=Lib.hid (SlEq_any hA hB hbig)
 clear hA hB
 go_enter Tryz.func207,Tryz.ntmps207
 go_wp2_with fail
 refine h.out.mono ?_
 rintro e w1 ⟨rfl,hE⟩
 go_wp2_with fail
 go_ret
 exact ⟨rfl,hE⟩
set_option maxHeartbeats 1000000 in
theorem EqF1_any {w:World} {va vb:Value} {A B:Mx} (hA:MatR w va A) (hB:MatR w vb B) (hbig:A.length≤1000000) (hbr : ∀ r∈A,r.length≤1000000) :
  Calls Tryz.prog 206 #[va,vb,.func (.func 207) #[] #[]] w fun e w'=>e = .returned (.bool (decide (A=B)))∧Ext w w':=by
 obtain ⟨sa,ga,oa,ca,va',rfl,hca,hvA,hSa,hrA⟩:=hA
 obtain ⟨sb,gb,ob,cb,vb',rfl,hcb,hvB,hSb,hrB⟩:=hB
 by_cases hl:A.length=B.length
 ·obtain ⟨n,hn⟩ : ∃ n,n=A.length:=⟨_,rfl⟩
  rw [← hl]
  rw [← hn] at hbig ⊢
  have HA:=Lib.hid hSa
  have HB:=Lib.hid hSb
  have HvA:=Lib.hid hvA
  have HvB:=Lib.hid hvB
  have HrA:=Lib.hid hrA
  have HrB:=Lib.hid hrB
  have Hn:=Lib.hid hn
  have Hm:=Lib.hid (hn.trans hl)
  have Hbr:=Lib.hid hbr
  clear hSa hSb hl hn hca hcb hvA hvB hrA hrB hbr
  go_enter Tryz.func206,Tryz.ntmps206
  go_wp2_with fail
  go_loopw [17] (fun idx wr => ∃ i:Nat,i≤n∧idx = .int .i64 i∧Hid (∀ j,j<i→A.getD j []=B.getD j [])∧Ext w wr) (fun idx _=>n-(intOf idx).toNat)
  case atStart=>exact ⟨0,by omega,by go_num,Lib.hid (fun j h=>by omega),Ext.refl _⟩
  case round =>
   obtain ⟨i,hi,rfl,Hz,hE⟩:=hrel
   generalize wr=X at *
   by_cases hlt:i<n
   ·have hii:(i:Int)<(n:Int):=by omega
    have hiA:i<A.length:=by rw [← Hn.out]; exact hlt
    have hiB:i<B.length:=by rw [← Hm.out]; exact hlt
    obtain ⟨sx,bx,ox,cx,hrx,hcx,hSx⟩:=MatR.row HA.out HvA.out HrA.out hiA
    obtain ⟨sy,by',oy,cy,hry,hcy,hSy⟩:=MatR.row HB.out HvB.out HrB.out hiB
    obtain rfl:=HA.out.addr (by rw [HvA.out]; omega)
    obtain rfl:=HB.out.addr (by rw [HvB.out]; omega)
    have k1:=hE.cell hrx
    have k2:=hE.cell hry
    have hx1:RowR X (.slice sx A[i].length cx) A[i]:=⟨sx,bx,ox,cx,rfl,hcx,hSx.ext hE⟩
    have hy1:RowR X (.slice sy B[i].length cy) B[i]:=⟨sy,by',oy,cy,rfl,hcy,hSy.ext hE⟩
    obtain ⟨lx,hlx⟩ : ∃ l,l=A[i].length:=⟨_,rfl⟩
    obtain ⟨ly,hly⟩ : ∃ l,l=B[i].length:=⟨_,rfl⟩
    rw [← hlx] at k1 hx1
    rw [← hly] at k2 hy1
    clear hlx hly
    have hEQ:=Lib.hid (tmpEq1_any hx1 hy1 (Hbr.out _ (List.getElem_mem hiA)))
    have HxA:=Lib.hid (show A.getD i []=A[i] from getD_get hiA [])
    have HxB:=Lib.hid (show B.getD i []=B[i] from getD_get hiB [])
    obtain ⟨q,hq⟩ : ∃ q,q=decide (A[i]=B[i]):=⟨_,rfl⟩
    rw [← hq] at hEQ
    have Hq:=Lib.hid hq
    clear hrx hry hcx hcy hSx hSy hq hx1 hy1
    cases q
    ·have Hne:=Lib.hid (show decide (A=B)=false from decide_eq_false (fun e=>by
      have:=Hq.out.symm
      rw [decide_eq_false_iff_not] at this
      exact this (by rw [← HxA.out, ← HxB.out,e])))
     clear Hq HxA HxB
     go_wp2_with fail
     refine hEQ.out.mono ?_
     rintro e W6 ⟨rfl,hE6⟩
     have hE2:=hE.trans hE6
     clear k1 k2 hEQ
     go_wp2_with fail
     go_ret
     exact ⟨by rw [Hne.out]; rfl,hE2⟩
    ·have Hok:=Lib.hid (show A.getD i []=B.getD i [] by rw [HxA.out,HxB.out]; exact of_decide_eq_true Hq.out.symm)
     have Hz2:=Lib.hid (show ∀ j,j<i+1→A.getD j []=B.getD j [] from fun j hj=>by
      by_cases e:j=i
      ·subst e; exact Hok.out
      ·exact Hz.out j (by omega))
     clear Hq HxA HxB
     go_wp2_with fail
     refine hEQ.out.mono ?_
     rintro e W6 ⟨rfl,hE6⟩
     have hE2:=hE.trans hE6
     clear k1 k2 hEQ
     go_wp2_with fail
     go_roundw
     case rel=>exact ⟨i+1,by omega,by go_num,Hz2,hE2⟩
     case measure=>simp [intOf] <;> omega
   ·have Heq:=Lib.hid (show decide (A=B)=true from decide_eq_true (mxf_getD_ext (by rw [← Hn.out, ← Hm.out]) (fun j hj=>Hz.out j (by rw [← Hn.out] at hj; omega))))
    go_wp2_with fail
    go_ret
    exact ⟨by rw [Heq.out]; rfl,hE⟩
 ·have hne:decide (A=B)=false:=decide_eq_false (fun e=>hl (by rw [e]))
  rw [hne]
  have h1 : ¬ ((A.length:Int)=(B.length:Int)):=by omega
  have h2:((A.length:Int)==(B.length:Int))=false:=beq_eq_false_iff_ne.2 h1
  have h3:((A.length:Int) != (B.length:Int))=true:=by simp [bne,h2]
  clear hSa hSb hca hcb hne hvA hvB hrA hrB hbr
  generalize A.length=n at *
  generalize B.length=m at *
  go_enter Tryz.func206,Tryz.ntmps206
  go_wp2_with fail
  go_ret
  exact ⟨rfl,Ext.refl _⟩
set_option maxHeartbeats 1000000 in
theorem EqFR_any {w:World} {va vb:Value} {A B:Mx} (hA:MatR w va A) (hB:MatR w vb B) (hbig:A.length≤1000000) (hbr : ∀ r∈A,r.length≤1000000) :
  Calls Tryz.prog 206 #[va,vb,.func (.func 178) #[] #[]] w fun e w'=>e = .returned (.bool (decide (A=B)))∧Ext w w':=by
 obtain ⟨sa,ga,oa,ca,va',rfl,hca,hvA,hSa,hrA⟩:=hA
 obtain ⟨sb,gb,ob,cb,vb',rfl,hcb,hvB,hSb,hrB⟩:=hB
 by_cases hl:A.length=B.length
 ·obtain ⟨n,hn⟩ : ∃ n,n=A.length:=⟨_,rfl⟩
  rw [← hl]
  rw [← hn] at hbig ⊢
  have HA:=Lib.hid hSa
  have HB:=Lib.hid hSb
  have HvA:=Lib.hid hvA
  have HvB:=Lib.hid hvB
  have HrA:=Lib.hid hrA
  have HrB:=Lib.hid hrB
  have Hn:=Lib.hid hn
  have Hm:=Lib.hid (hn.trans hl)
  have Hbr:=Lib.hid hbr
  clear hSa hSb hl hn hca hcb hvA hvB hrA hrB hbr
  go_enter Tryz.func206,Tryz.ntmps206
  go_wp2_with fail
  go_loopw [17] (fun idx wr => ∃ i:Nat,i≤n∧idx = .int .i64 i∧Hid (∀ j,j<i→A.getD j []=B.getD j [])∧Ext w wr) (fun idx _=>n-(intOf idx).toNat)
  case atStart=>exact ⟨0,by omega,by go_num,Lib.hid (fun j h=>by omega),Ext.refl _⟩
  case round =>
   obtain ⟨i,hi,rfl,Hz,hE⟩:=hrel
   generalize wr=X at *
   by_cases hlt:i<n
   ·have hii:(i:Int)<(n:Int):=by omega
    have hiA:i<A.length:=by rw [← Hn.out]; exact hlt
    have hiB:i<B.length:=by rw [← Hm.out]; exact hlt
    obtain ⟨sx,bx,ox,cx,hrx,hcx,hSx⟩:=MatR.row HA.out HvA.out HrA.out hiA
    obtain ⟨sy,by',oy,cy,hry,hcy,hSy⟩:=MatR.row HB.out HvB.out HrB.out hiB
    obtain rfl:=HA.out.addr (by rw [HvA.out]; omega)
    obtain rfl:=HB.out.addr (by rw [HvB.out]; omega)
    have k1:=hE.cell hrx
    have k2:=hE.cell hry
    have hx1:RowR X (.slice sx A[i].length cx) A[i]:=⟨sx,bx,ox,cx,rfl,hcx,hSx.ext hE⟩
    have hy1:RowR X (.slice sy B[i].length cy) B[i]:=⟨sy,by',oy,cy,rfl,hcy,hSy.ext hE⟩
    obtain ⟨lx,hlx⟩ : ∃ l,l=A[i].length:=⟨_,rfl⟩
    obtain ⟨ly,hly⟩ : ∃ l,l=B[i].length:=⟨_,rfl⟩
    rw [← hlx] at k1 hx1
    rw [← hly] at k2 hy1
    clear hlx hly
    have hEQ:=Lib.hid (rowEqual_any hx1 hy1 (Hbr.out _ (List.getElem_mem hiA)))
    have HxA:=Lib.hid (show A.getD i []=A[i] from getD_get hiA [])
    have HxB:=Lib.hid (show B.getD i []=B[i] from getD_get hiB [])
    obtain ⟨q,hq⟩ : ∃ q,q=decide (A[i]=B[i]):=⟨_,rfl⟩
    rw [← hq] at hEQ
    have Hq:=Lib.hid hq
    clear hrx hry hcx hcy hSx hSy hq hx1 hy1
    cases q
    ·have Hne:=Lib.hid (show decide (A=B)=false from decide_eq_false (fun e=>by
      have:=Hq.out.symm
      rw [decide_eq_false_iff_not] at this
      exact this (by rw [← HxA.out, ← HxB.out,e])))
     clear Hq HxA HxB
     go_wp2_with fail
     refine hEQ.out.mono ?_
     rintro e W6 ⟨rfl,hE6⟩
     have hE2:=hE.trans hE6
     clear k1 k2 hEQ
     go_wp2_with fail
     go_ret
     exact ⟨by rw [Hne.out]; rfl,hE2⟩
    ·have Hok:=Lib.hid (show A.getD i []=B.getD i [] by rw [HxA.out,HxB.out]; exact of_decide_eq_true Hq.out.symm)
     have Hz2:=Lib.hid (show ∀ j,j<i+1→A.getD j []=B.getD j [] from fun j hj=>by
      by_cases e:j=i
      ·subst e; exact Hok.out
      ·exact Hz.out j (by omega))
     clear Hq HxA HxB
     go_wp2_with fail
     refine hEQ.out.mono ?_
     rintro e W6 ⟨rfl,hE6⟩
     have hE2:=hE.trans hE6
     clear k1 k2 hEQ
     go_wp2_with fail
     go_roundw
     case rel=>exact ⟨i+1,by omega,by go_num,Hz2,hE2⟩
     case measure=>simp [intOf] <;> omega
   ·have Heq:=Lib.hid (show decide (A=B)=true from decide_eq_true (mxf_getD_ext (by rw [← Hn.out, ← Hm.out]) (fun j hj=>Hz.out j (by rw [← Hn.out] at hj; omega))))
    go_wp2_with fail
    go_ret
    exact ⟨by rw [Heq.out]; rfl,hE⟩
 ·have hne:decide (A=B)=false:=decide_eq_false (fun e=>hl (by rw [e]))
  rw [hne]
  have h1 : ¬ ((A.length:Int)=(B.length:Int)):=by omega
  have h2:((A.length:Int)==(B.length:Int))=false:=beq_eq_false_iff_ne.2 h1
  have h3:((A.length:Int) != (B.length:Int))=true:=by simp [bne,h2]
  clear hSa hSb hca hcb hne hvA hvB hrA hrB hbr
  generalize A.length=n at *
  generalize B.length=m at *
  go_enter Tryz.func206,Tryz.ntmps206
  go_wp2_with fail
  go_ret
  exact ⟨rfl,Ext.refl _⟩
theorem tmpSame_any {w:World} {va vb:Value} {A B:Mx} (hA:MatR w va A) (hB:MatR w vb B) (hbig:A.length≤1000000) (hbr : ∀ r∈A,r.length≤1000000) :
  Calls Tryz.prog 141 #[va,vb] w fun e w'=>e = .returned (.bool (decide (A=B)))∧Ext w w':=by
 have h:=Lib.hid (EqF1_any hA hB hbig hbr)
 clear hA hB
 go_enter Tryz.func141,Tryz.ntmps141
 go_wp2_with fail
 refine h.out.mono ?_
 rintro e w1 ⟨rfl,hE⟩
 go_wp2_with fail
 go_ret
 exact ⟨rfl,hE⟩
theorem latEqual_any {w:World} {n:Nat} {va vb:Value} {A B:Mx} (hA:MatR w va A) (hB:MatR w vb B) (hbig:A.length≤1000000) (hbr : ∀ r∈A,r.length≤1000000) :
  Calls Tryz.prog 140 #[latv n va,latv n vb] w fun e w'=>e = .returned (.bool (decide (A=B)))∧Ext w w':=by
 have h:=Lib.hid (fun W (hW:Ext w W)=>EqFR_any (hA.ext hW) (hB.ext hW) hbig hbr)
 have hX:Ext w ((w.alloc (.cells #[.int .i64 n,va] 204)).alloc (.cells #[.int .i64 n,vb] 204)):=((Ext.refl w).alloc _).alloc _
 obtain ⟨sa,ga,oa,ca,va',rfl,hca,hvA,hSa,hrA⟩:=hA
 obtain ⟨sb,gb,ob,cb,vb',rfl,hcb,hvB,hSb,hrB⟩:=hB
 clear hSa hSb hrA hrB hvA hvB hca hcb hbig hbr
 generalize A.length=L at *
 generalize B.length=L2 at *
 go_enter Tryz.func140,Tryz.ntmps140
 go_wp2_with fail
 refine (h.out _ hX).mono ?_
 rintro e w1 ⟨rfl,hE⟩
 go_wp2_with fail
 go_ret
 exact ⟨rfl,hX.trans hE⟩
def SmP (n:Int):Prop:=n=2∨n=3∨n=5∨n=7∨n=11∨n=13
set_option maxHeartbeats 1000000 in
theorem isPrime_ok {w:World} {n:Int} (h:SmP n):Calls Tryz.prog 107 #[.int .i64 n] w fun e w'=>e = .returned (.bool true)∧Ext w w':=by
  rcases h with rfl | rfl | rfl | rfl | rfl | rfl
  all_goals
    go_enter Tryz.func107,Tryz.ntmps107
    go_wp2_with fail
    go_loopw [3] (fun dv wr => ∃ d:Nat,2≤d∧d≤4∧dv = .int .i64 d∧Ext w wr) (fun dv _=>4-(intOf dv).toNat)
    case atStart=>exact ⟨2,by omega,by omega,by go_num,Ext.refl _⟩
    case round =>
      obtain ⟨d,hd1,hd2,rfl,hE⟩:=hrel
      generalize wr=X at *
      rcases (show d=2∨d=3∨d=4 by omega) with rfl | rfl | rfl
      all_goals
        go_wp2_with fail
        first
          | (go_ret
             exact ⟨rfl,hE⟩)
          | (go_roundw
             case rel=>exact ⟨3,by omega,by omega,by go_num,hE⟩
             case measure=>simp [intOf])
          | (go_roundw
             case rel=>exact ⟨4,by omega,by omega,by go_num,hE⟩
             case measure=>simp [intOf])
set_option maxHeartbeats 1000000 in
theorem pCheck_ok {w:World} {v:Value} {p:List Int} (hp:RowR w v p) (h0:0<p.length) (h6:p.length≤6) (hP : ∀ x∈p,SmP x) (hinc : ∀ i (h:i+1<p.length),p[i]'(by omega)<p[i+1]) :
  Calls Tryz.prog 48 #[v] w fun e w'=>e = .returned (.int .i64 0)∧Ext w w':=by
 obtain ⟨sa,gb,go,cap,rfl,hc,hS⟩:=hp
 obtain ⟨n,hn⟩ : ∃ n,n=p.length:=⟨_,rfl⟩
 have HS:=Lib.hid hS
 have HP:=Lib.hid hP
 have HI:=Lib.hid hinc
 obtain rfl:=hS.addr (by simp; omega)
 rw [← hn] at h0 h6 hc ⊢
 have Hn:=Lib.hid hn
 have hz : ¬ (n:Int)=0:=by omega
 have hz2:((n:Int)==0)=false:=beq_eq_false_iff_ne.2 hz
 have h6' : ¬ (n:Int)>6:=by omega
 clear hS hP hinc hn
 go_enter Tryz.func48,Tryz.ntmps48
 go_wp2_with fail
 go_loopw [15] (fun idx wr => ∃ i:Nat,i≤n∧idx = .int .i64 i∧Ext w wr) (fun idx _=>n-(intOf idx).toNat)
 case atStart=>exact ⟨0,by omega,by go_num,Ext.refl _⟩
 case round =>
  obtain ⟨i,hi,rfl,hE⟩:=hrel
  generalize wr=X at *
  by_cases hlt:i<n
  ·have hii:(i:Int)<(n:Int):=by omega
   have hil:i<p.length:=by rw [← Hn.out]; exact hlt
   obtain ⟨x,hx⟩ : ∃ x,x=p[i]:=⟨_,rfl⟩
   have cx:=hE.cell (HS.out.cell i (.int .i64 x) (by rw [hx]; exact is_get hil))
   have hpr:=Lib.hid (fun W=>isPrime_ok (w:=W) (n:=x) (by rw [hx]; exact HP.out _ (List.getElem_mem hil)))
   cases i with
   | zero =>
    simp only [Nat.add_zero] at cx
    clear hx
    go_wp2_with fail
    refine (hpr.out _).mono ?_
    rintro e W ⟨rfl,hW⟩
    have hEW:=hE.trans hW
    go_wp2_with fail
    refine ⟨⟨1,by omega,by go_num,hEW⟩,by simp [intOf]; omega⟩
   | succ j =>
    obtain ⟨y,hy⟩ : ∃ y,y=p[j]'(by omega):=⟨_,rfl⟩
    have cy:=hE.cell (HS.out.cell j (.int .i64 y) (by rw [hy]; exact is_get (by omega)))
    have hxy : ¬ x≤y:=by have:=HI.out j hil; rw [← hx, ← hy] at this; omega
    have hw1:IntKind.i64.wrap (((j+1:Nat):Int)-1)=(j:Int):=by rw [IntWalk.i64_in _ (by omega)]; omega
    have hw2:IntKind.i64.wrap ((j:Int)+1-1)=(j:Int):=by rw [IntWalk.i64_in _ (by omega)]; omega
    have hj0:((j+1:Nat):Int)>0:=by omega
    have hj1:(0:Int)<(j:Int)+1:=by omega
    have hj2:(j:Int)<(n:Int):=by omega
    clear hx hy hil
    go_wp2_with fail
    refine (hpr.out _).mono ?_
    rintro e W ⟨rfl,hW⟩
    replace cx:=hW.cell cx
    replace cy:=hW.cell cy
    have hEW:=hE.trans hW
    go_wp2_with fail
    refine ⟨⟨j+1+1,by omega,by go_num,hEW⟩,by simp [intOf]; omega⟩
  ·have hie:i=n:=by omega
   subst hie
   go_wp2_with fail
   go_ret
   exact ⟨rfl,hE⟩
theorem rowN {W:World} {b:Nat} {l:List Int} {n:Nat} (hn:l.length=n) (h : ∀ i (h:i<l.length),W.cell? ⟨b,i,none⟩=some (.int .i64 l[i])):RowR W (.slice (some ⟨b,0,none⟩) n n) l:=by
 subst hn
 refine ⟨_,b,0,l.length,rfl,Nat.le_refl _,⟨fun _=>rfl,fun i v hv => ?_⟩⟩
 have hi:i<l.length:=by have:=(List.getElem?_eq_some_iff.1 hv).1; simpa using this
 rw [is_get hi] at hv
 rw [← Option.some.inj hv,Nat.zero_add]
 exact h i hi
def prLs:List (List Int):=[[2,3,5],[2,3,5,7],[2,3],[2,3,7],[2,5,7],[3,5,7],[2,3,5,11],[2],[2,3,7,13],[3,5,7,13]]
def prL (b:Int):List Int:=prLs.getD (b%10).toNat []
theorem prL_all : ∀ k:Fin 10,(∀ x∈prLs.getD k.val [],x=2∨x=3∨x=5∨x=7∨x=11∨x=13)∧0<(prLs.getD k.val []).length∧(prLs.getD k.val []).length≤4 ∧ ∀ i:Fin 4,i.val+1<(prLs.getD k.val []).length→(prLs.getD k.val []).getD i.val 0<(prLs.getD k.val []).getD (i.val+1) 0:=by
 decide +kernel
theorem prL_ok (b:Int):(∀ x∈prL b,SmP x)∧0<(prL b).length∧(prL b).length≤4 ∧ ∀ i (h:i+1<(prL b).length),(prL b)[i]'(by omega)<(prL b)[i+1]:=by
 have key : ∀ k:Fin 10,(∀ x∈prLs.getD k.val [],SmP x)∧0<(prLs.getD k.val []).length∧(prLs.getD k.val []).length≤4 ∧ ∀ i (h:i+1<(prLs.getD k.val []).length),(prLs.getD k.val [])[i]'(by omega)<(prLs.getD k.val [])[i+1]:=fun k=>by
  obtain ⟨h1,h2,h3,h4⟩:=prL_all k
  refine ⟨h1,h2,h3,fun i h => ?_⟩
  have:=h4 ⟨i,Nat.lt_of_succ_lt (Nat.lt_of_lt_of_le h h3)⟩ h
  rwa [getD_get (Nat.lt_of_succ_lt h),getD_get h] at this
 exact key ⟨(b%10).toNat,by omega⟩
def PrPost (w:World) (b:Int) (e:Ending) (w':World):Prop := ∃ g,e = .returned (slv g (prL b).length (prL b).length)∧RowR w' (slv g (prL b).length (prL b).length) (prL b)∧w.heap.size≤g∧Ext w w'
set_option maxHeartbeats 4000000 in
theorem primes12_any {w:World} {b:Int} (hb:0≤b∧b≤255):Calls Tryz.prog 71 #[.int .u8 b] w (PrPost w b):=by
  obtain ⟨hb1,hb2⟩:=hb
  obtain ⟨k,hk⟩ : ∃ k:Nat,b%10=(k:Int):=⟨(b%10).toNat,by omega⟩
  have hk10:k<10:=by omega
  have hp:prL b=prLs.getD k []:=by unfold prL; rw [hk]; rfl
  have Hp:=Lib.hid hp
  clear hp
  go_enter Tryz.func71,Tryz.ntmps71
  rcases (show k=0∨k=1∨k=2∨k=3∨k=4∨k=5∨k=6∨k=7∨k=8∨k=9 by omega) with rfl | rfl | rfl | rfl | rfl | rfl | rfl | rfl | rfl | rfl
  all_goals
    go_wp2_with fail
    go_ret
    refine ⟨_,by rw [Hp.out]; rfl,?_,?_,?_⟩
    · rw [Hp.out]
      refine rowN rfl fun i hi => ?_
      have hi4:i<4:=Nat.lt_of_lt_of_le hi (by decide)
      rcases (show i=0∨i=1∨i=2∨i=3 by omega) with rfl | rfl | rfl | rfl
      all_goals first
        | (exact absurd hi (by decide))
        | (simp only [prLs,List.getD_eq_getElem?_getD,List.getElem?_cons_zero,List.getElem?_cons_succ,Option.getD_some,List.getElem_cons_zero,List.getElem_cons_succ]; go_simp)
    · first | exact Nat.le_refl _ | exact Nat.le_add_right _ _ | omega | (simp; done) | (simp; omega)
    · repeat (first | exact Ext.refl _ | refine Ext.alloc ?_ _)
def ivL (n:Nat) (zs:List Int):List Int:=(zs.take n).map (·.tmod 10)
theorem ivL_len {n:Nat} {zs:List Int} (h4:zs.length=4) (hn:n≤4):(ivL n zs).length=n:=by simp [ivL,h4]; omega
theorem ivL_ent (n:Nat) (zs:List Int) : ∀ z∈ivL n zs,-9≤z∧z≤9:=fun z hz=>by
 obtain ⟨y,_,rfl⟩:=List.mem_map.1 hz
 have h1:=Int.tmod_lt_of_pos y (b:=10) (by omega)
 have h2:=Int.lt_tmod_of_pos y (b:=10) (by omega)
 omega
structure Ar4 (cs:Array Value) (zs:List Int):Prop where
 sz:cs.size=4
 len:zs.length=4
 at' : ∀ j (_:j<4),cs[j]? = some (.int .i8 (zs.getD j 0))
 bd : ∀ z∈zs,-128≤z∧z≤127
theorem cellA {w:World} {cs:Array Value} {T:TypeId} {j:Nat} {x:Value} (h:cs[j]? = some x):(w.alloc (.cells cs T)).cell? ⟨w.heap.size,j,none⟩=some x:=by
 have hh:(w.heap.push (.cells cs T))[w.heap.size]? = some (.cells cs T):=Array.getElem?_push_size
 simp only [World.cell?,World.alloc,hh]
 exact h
set_option maxHeartbeats 4000000 in
theorem interval12_any {w:World} {v:Value} {P:List Int} {cs:Array Value} {zs:List Int} (hP:RowR w v P) (hl:P.length≤4) (hA:Ar4 cs zs) :
  Calls Tryz.prog 59 #[v,.agg cs] w fun e w' => ∃ v',e = .returned v'∧RowV w.heap.size w' v' (ivL P.length zs)∧Ext w w':=by
 obtain ⟨sa,gb,go,cap,rfl,hcap,hS⟩:=hP
 have hc:=Lib.hid (fun j (hj:j<4)=>cellA (w:=w) (T:=120) (hA.at' j hj))
 have Hl:=Lib.hid hA.len
 have hEw:=(Ext.refl w).alloc (.cells cs 120)
 have hsz:w.heap.size≤(w.alloc (.cells cs 120)).heap.size:=by simp
 have Hbd:=Lib.hid hA.bd
 clear hS hA
 obtain ⟨n,hn⟩ : ∃ n,n=P.length:=⟨_,rfl⟩
 rw [← hn] at hl hcap ⊢
 clear hn
 have HrL:=Lib.hid (ivL_len Hl.out hl)
 go_enter Tryz.func59,Tryz.ntmps59
 go_wp2_with fail
 generalize (w.alloc (.cells cs 120))=V at *
 go_loopw [5,6] (fun out idx wr => ∃ i:Nat,i≤n∧idx = .int .i64 i∧Hid (RowV V.heap.size wr out ((ivL n zs).take i))∧Ext V wr) (fun _ idx _=>n-(intOf idx).toNat)
 case atStart=>exact ⟨0,by omega,by go_num,Lib.hid (RowV.nil _ _),Ext.refl _⟩
 case round =>
  obtain ⟨i,hi,rfl,hO,hE⟩:=hrel
  generalize wr=X at *
  by_cases hlt:i<n
  ·have hii:(i:Int)<(n:Int):=by omega
   have hi4:(i:Int)<4:=by omega
   have hi4n:i<4:=by omega
   have hz':=hE.cell (hc.out i hi4n)
   obtain ⟨z,hz⟩ : ∃ z,z=zs.getD i 0:=⟨_,rfl⟩
   rw [← hz] at hz'
   have hzb:=Hbd.out z (by rw [hz,getD_get (by rw [Hl.out]; exact hi4n)]; exact List.getElem_mem _)
   have hq : -9≤z.tmod 10∧z.tmod 10≤9:=by
    have h1:=Int.tmod_lt_of_pos z (b:=10) (by omega)
    have h2:=Int.lt_tmod_of_pos z (b:=10) (by omega)
    omega
   have Hrl:=Lib.hid (show ((ivL n zs).take i).length=i by rw [List.length_take,HrL.out]; omega)
   have Hsn:=Lib.hid (show (ivL n zs).take (i+1)=(ivL n zs).take i++[z.tmod 10] by
    rw [List.take_succ_eq_append_getElem (by rw [HrL.out]; exact hlt)]
    congr 2
    simp only [ivL,List.getElem_map,List.getElem_take]
    rw [hz,getD_get (by rw [Hl.out]; exact hi4n)])
   have hsX:=hE.size
   clear hz
   go_wp2_with (at_builtin; refine app_int rfl _ _ 30 Tryz.underlying30 rfl rfl (hO.out.ext ((Ext.refl _).alloc _)) rfl (b:=X.heap.size) (z:=z.tmod 10) (by go_simp) (by rw [Hrl.out]; omega) (by simp; omega) ?_; intro gg cap2 w8 hO8 hB8 hG8; rw [Hrl.out] at hO8 ⊢; rw [← Hsn.out] at hO8)
   have hE8:Ext V w8:=Below.trans (hE.alloc (.cells #[.int .i64 (z.tmod 10)] 3)) hB8
   have hO9:=Lib.hid hO8
   clear hG8 hB8 hO8
   go_wp2_with fail
   go_roundw
   case rel=>exact ⟨i+1,by omega,by go_num,hO9,hE8⟩
   case measure=>simp [intOf] <;> omega
  ·have hie:i=n:=by omega
   have HF:=Lib.hid (show RowV V.heap.size X u5 (ivL n zs) by have:=hO.out; rw [hie,List.take_of_length_le (by rw [HrL.out]; exact Nat.le_refl _)] at this; exact this)
   have hi4 : ¬ (i:Int)<(n:Int):=by omega
   go_wp2_with fail
   go_ret
   exact ⟨_,rfl,HF.out.mono hsz,hEw.trans hE⟩
end Go.Proofs.YtjnpakablgommaaGreatDoor
