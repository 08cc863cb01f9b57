/- Part 12, beside the shared parts, of the proof of the claim: contracts and plain laws; no condition. -/
import Derived.Test.YtjnpakablgommaaGreatDoorX11
import Derived.BigQuiet
import Derived.BigFrame
import Derived.Laws.Rows
set_option maxRecDepth 100000
namespace Go.Proofs.YtjnpakablgommaaGreatDoor
open Go.RowKit Go.Sort
abbrev gensT (A B:Nat→Nat→Int):Value := .agg #[.int .i8 (A 0 0),.int .u8 (B 0 0),.int .i8 (A 0 1),.int .u8 (B 0 1),.int .i8 (A 0 2),.int .u8 (B 0 2),.int .i8 (A 0 3),.int .u8 (B 0 3),.int .i8 (A 1 0),.int .u8 (B 1 0),.int .i8 (A 1 1),.int .u8 (B 1 1),.int .i8 (A 1 2),.int .u8 (B 1 2),.int .i8 (A 1 3),.int .u8 (B 1 3),.int .i8 (A 2 0),.int .u8 (B 2 0),.int .i8 (A 2 1),.int .u8 (B 2 1),.int .i8 (A 2 2),.int .u8 (B 2 2),.int .i8 (A 2 3),.int .u8 (B 2 3),.int .i8 (A 3 0),.int .u8 (B 3 0),.int .i8 (A 3 1),.int .u8 (B 3 1),.int .i8 (A 3 2),.int .u8 (B 3 2),.int .i8 (A 3 3),.int .u8 (B 3 3)]
theorem fp_yes {w w':World} {P:List Int} {C M:Mx} {L:List (List Rat)} {e:Ending} (h:FpPost w P C M L e w') (hT:TmOK P C M) (hl:L.length=P.length) (hcl : ∀ l∈L,l.length=P.length) (htw : ∀ l∈L,∀ r∈l,Tw 480 r) :
  ((∃ c∈C,∃ r∈cmbQ L (nbL c) P.length,r.num≠0)∧e = .returned (.tuple #[tuZ,.int .i64 26])∧Ext w w') ∨
  ((∀ c∈C,∀ r∈cmbQ L (nbL c) P.length,r.num=0)∧(∃ S t,e = .returned (.tuple #[t,.int .i64 0])∧TuR w' t P C M (frG P.length L S) ∧ ∀ i,i<P.length→tuL P.length M (frG P.length L S) (unitL P.length i)=L.getD i [])∧Ext w w'):=by
 rcases h with h | ⟨hz,S,hS,hm⟩
 ·exact .inl h
 ·have hsz : ∀ l∈frG P.length L S,szE l=0:=fun l hl2=>by
   obtain ⟨s,hs2,rfl⟩:=List.mem_map.1 hl2
   obtain ⟨j,hj,rfl⟩:=List.getElem_of_mem hs2
   refine szE_sh fun r hr=>(cmbQ_tw (A:=480) (K:=1000000000) htw (fun z hz2=>by have:=(hS.row j hj).2.2.2 z hz2; omega) r hr).sm ?_
   have h1:L.length*(480*1000000000)≤4*(480*1000000000):=Nat.mul_le_mul_right _ (by rw [hl]; exact hT.p4)
   have:=big30
   omega
  obtain ⟨⟨t,he,ht⟩,hE⟩:=md_yes hm hsz
  exact .inr ⟨hz,⟨S,t,he,ht,fun i hi=>from_back hT hS hl hcl (fun r hr=>(list_zero_iff (cmbQ_length _ _ _)).1 (hz r hr)) hi⟩,hE⟩
set_option maxHeartbeats 32000000 in
theorem tfr_walk {w:World} {b:Int} {rv:Value} {Z:List (List Int)} {vals:Bool} {A B:Nat→Nat→Int} {less:Bool} (hb:0≤b∧b≤255) (hR:RowsA w rv Z) (hB : ∀ i t,0≤B i t∧B i t≤255) (hL:Laid w) :
  Calls Tryz.prog 5 #[.agg #[.int .u8 b,rv,.bool vals],gensT A B,.bool less] w fun e w'=>e = .returned (.bool true)∧Ext w w':=by
 have hkn:=Lib.hid (fun W (hW:Ext w W)=>known24_any (hL.ext hW))
 have hft:=Lib.hid (fun W (hW:Ext w W)=>fits18_any (b:=b) (vals:=vals) (hR.ext hW))
 have hmk:=Lib.hid (fun W (hW:Ext w W) (h3:Z.length≤3)=>make18_any (vals:=vals) hb (hR.ext hW) h3 (hL.ext hW))
 have HL:=Lib.hid hL
 have HB:=Lib.hid hB
 obtain ⟨sr,gr,orr,cr,rfl,hrest⟩:=hR
 obtain ⟨rz,hrz⟩ : ∃ rz,rz=Z.length:=⟨_,rfl⟩
 rw [← hrz] at hft hmk ⊢
 have hX:=((Ext.refl w).alloc (.cells #[.int .u8 b,.slice sr rz cr,.bool vals] 24)).alloc (.cells #[.int .i8 (A 0 0),.int .u8 (B 0 0),.int .i8 (A 0 1),.int .u8 (B 0 1),.int .i8 (A 0 2),.int .u8 (B 0 2),.int .i8 (A 0 3),.int .u8 (B 0 3),.int .i8 (A 1 0),.int .u8 (B 1 0),.int .i8 (A 1 1),.int .u8 (B 1 1),.int .i8 (A 1 2),.int .u8 (B 1 2),.int .i8 (A 1 3),.int .u8 (B 1 3),.int .i8 (A 2 0),.int .u8 (B 2 0),.int .i8 (A 2 1),.int .u8 (B 2 1),.int .i8 (A 2 2),.int .u8 (B 2 2),.int .i8 (A 2 3),.int .u8 (B 2 3),.int .i8 (A 3 0),.int .u8 (B 3 0),.int .i8 (A 3 1),.int .u8 (B 3 1),.int .i8 (A 3 2),.int .u8 (B 3 2),.int .i8 (A 3 3),.int .u8 (B 3 3)] 56)
 have p0:((w.alloc (.cells #[.int .u8 b,.slice sr rz cr,.bool vals] 24)).alloc (.cells #[.int .i8 (A 0 0),.int .u8 (B 0 0),.int .i8 (A 0 1),.int .u8 (B 0 1),.int .i8 (A 0 2),.int .u8 (B 0 2),.int .i8 (A 0 3),.int .u8 (B 0 3),.int .i8 (A 1 0),.int .u8 (B 1 0),.int .i8 (A 1 1),.int .u8 (B 1 1),.int .i8 (A 1 2),.int .u8 (B 1 2),.int .i8 (A 1 3),.int .u8 (B 1 3),.int .i8 (A 2 0),.int .u8 (B 2 0),.int .i8 (A 2 1),.int .u8 (B 2 1),.int .i8 (A 2 2),.int .u8 (B 2 2),.int .i8 (A 2 3),.int .u8 (B 2 3),.int .i8 (A 3 0),.int .u8 (B 3 0),.int .i8 (A 3 1),.int .u8 (B 3 1),.int .i8 (A 3 2),.int .u8 (B 3 2),.int .i8 (A 3 3),.int .u8 (B 3 3)] 56)).cell? ⟨w.heap.size,0,none⟩=some (.int .u8 b):=by go_simp
 have p1:((w.alloc (.cells #[.int .u8 b,.slice sr rz cr,.bool vals] 24)).alloc (.cells #[.int .i8 (A 0 0),.int .u8 (B 0 0),.int .i8 (A 0 1),.int .u8 (B 0 1),.int .i8 (A 0 2),.int .u8 (B 0 2),.int .i8 (A 0 3),.int .u8 (B 0 3),.int .i8 (A 1 0),.int .u8 (B 1 0),.int .i8 (A 1 1),.int .u8 (B 1 1),.int .i8 (A 1 2),.int .u8 (B 1 2),.int .i8 (A 1 3),.int .u8 (B 1 3),.int .i8 (A 2 0),.int .u8 (B 2 0),.int .i8 (A 2 1),.int .u8 (B 2 1),.int .i8 (A 2 2),.int .u8 (B 2 2),.int .i8 (A 2 3),.int .u8 (B 2 3),.int .i8 (A 3 0),.int .u8 (B 3 0),.int .i8 (A 3 1),.int .u8 (B 3 1),.int .i8 (A 3 2),.int .u8 (B 3 2),.int .i8 (A 3 3),.int .u8 (B 3 3)] 56)).cell? ⟨w.heap.size,1,none⟩=some (.slice sr rz cr):=by go_simp
 have p2:((w.alloc (.cells #[.int .u8 b,.slice sr rz cr,.bool vals] 24)).alloc (.cells #[.int .i8 (A 0 0),.int .u8 (B 0 0),.int .i8 (A 0 1),.int .u8 (B 0 1),.int .i8 (A 0 2),.int .u8 (B 0 2),.int .i8 (A 0 3),.int .u8 (B 0 3),.int .i8 (A 1 0),.int .u8 (B 1 0),.int .i8 (A 1 1),.int .u8 (B 1 1),.int .i8 (A 1 2),.int .u8 (B 1 2),.int .i8 (A 1 3),.int .u8 (B 1 3),.int .i8 (A 2 0),.int .u8 (B 2 0),.int .i8 (A 2 1),.int .u8 (B 2 1),.int .i8 (A 2 2),.int .u8 (B 2 2),.int .i8 (A 2 3),.int .u8 (B 2 3),.int .i8 (A 3 0),.int .u8 (B 3 0),.int .i8 (A 3 1),.int .u8 (B 3 1),.int .i8 (A 3 2),.int .u8 (B 3 2),.int .i8 (A 3 3),.int .u8 (B 3 3)] 56)).cell? ⟨w.heap.size,2,none⟩=some (.bool vals):=by go_simp
 have hc : ∀ t,t<4 → ∀ j,j<4→((w.alloc (.cells #[.int .u8 b,.slice sr rz cr,.bool vals] 24)).alloc (.cells #[.int .i8 (A 0 0),.int .u8 (B 0 0),.int .i8 (A 0 1),.int .u8 (B 0 1),.int .i8 (A 0 2),.int .u8 (B 0 2),.int .i8 (A 0 3),.int .u8 (B 0 3),.int .i8 (A 1 0),.int .u8 (B 1 0),.int .i8 (A 1 1),.int .u8 (B 1 1),.int .i8 (A 1 2),.int .u8 (B 1 2),.int .i8 (A 1 3),.int .u8 (B 1 3),.int .i8 (A 2 0),.int .u8 (B 2 0),.int .i8 (A 2 1),.int .u8 (B 2 1),.int .i8 (A 2 2),.int .u8 (B 2 2),.int .i8 (A 2 3),.int .u8 (B 2 3),.int .i8 (A 3 0),.int .u8 (B 3 0),.int .i8 (A 3 1),.int .u8 (B 3 1),.int .i8 (A 3 2),.int .u8 (B 3 2),.int .i8 (A 3 3),.int .u8 (B 3 3)] 56)).cell? ⟨w.heap.size+1,t*8+2*j,none⟩=some (.int .i8 (A t j))∧((w.alloc (.cells #[.int .u8 b,.slice sr rz cr,.bool vals] 24)).alloc (.cells #[.int .i8 (A 0 0),.int .u8 (B 0 0),.int .i8 (A 0 1),.int .u8 (B 0 1),.int .i8 (A 0 2),.int .u8 (B 0 2),.int .i8 (A 0 3),.int .u8 (B 0 3),.int .i8 (A 1 0),.int .u8 (B 1 0),.int .i8 (A 1 1),.int .u8 (B 1 1),.int .i8 (A 1 2),.int .u8 (B 1 2),.int .i8 (A 1 3),.int .u8 (B 1 3),.int .i8 (A 2 0),.int .u8 (B 2 0),.int .i8 (A 2 1),.int .u8 (B 2 1),.int .i8 (A 2 2),.int .u8 (B 2 2),.int .i8 (A 2 3),.int .u8 (B 2 3),.int .i8 (A 3 0),.int .u8 (B 3 0),.int .i8 (A 3 1),.int .u8 (B 3 1),.int .i8 (A 3 2),.int .u8 (B 3 2),.int .i8 (A 3 3),.int .u8 (B 3 3)] 56)).cell? ⟨w.heap.size+1,t*8+2*j+1,none⟩=some (.int .u8 (B t j)):=fun t ht j hj=>by
  rcases (show t=0∨t=1∨t=2∨t=3 by omega) with rfl | rfl | rfl | rfl <;> rcases (show j=0∨j=1∨j=2∨j=3 by omega) with rfl | rfl | rfl | rfl <;> constructor <;> go_simp
 have Hc:=Lib.hid hc
 clear hrest hrz hb hL hB hc
 by_cases hz3:rz≤3
 case neg =>
  simp only [decide_eq_false hz3] at hft
  clear hz3
  go_enter Tryz.func5,Tryz.ntmps5
  go_wp2_with fail
  refine (hkn.out _ hX).mono ?_
  rintro e W1 ⟨rfl,hE1⟩
  have e1:=hX.trans hE1
  have HE1:=Lib.hid hE1
  replace p0:=hE1.cell p0
  replace p1:=hE1.cell p1
  replace p2:=hE1.cell p2
  clear hE1
  go_wp2_with fail
  refine (hft.out _ e1).mono ?_
  rintro e W2 ⟨rfl,hE2⟩
  have e2:=e1.trans hE2
  have HE2:=Lib.hid (HE1.out.trans hE2)
  replace p0:=hE2.cell p0
  replace p1:=hE2.cell p1
  replace p2:=hE2.cell p2
  clear hE2 hft
  go_wp2_with fail
  refine (hkn.out _ e2).mono ?_
  rintro e W9 ⟨rfl,hE9⟩
  go_wp2_with fail
  go_ret
  exact ⟨rfl,e2.trans hE9⟩
 simp only [decide_eq_true hz3] at hft
 replace hmk:=Lib.hid (fun W hW=>hmk.out W hW hz3)
 clear hz3
 go_enter Tryz.func5,Tryz.ntmps5
 go_wp2_with fail
 refine (hkn.out _ hX).mono ?_
 rintro e W1 ⟨rfl,hE1⟩
 have e1:=hX.trans hE1
 have HE1:=Lib.hid hE1
 replace p0:=hE1.cell p0
 replace p1:=hE1.cell p1
 replace p2:=hE1.cell p2
 clear hE1
 go_wp2_with fail
 refine (hft.out _ e1).mono ?_
 rintro e W2 ⟨rfl,hE2⟩
 have e2:=e1.trans hE2
 have HE2:=Lib.hid (HE1.out.trans hE2)
 replace p0:=hE2.cell p0
 replace p1:=hE2.cell p1
 replace p2:=hE2.cell p2
 clear hE2 hft
 clear hkn
 go_wp2_with fail
 refine (hmk.out _ e2).mono ?_
 rintro e W3 ⟨t,C,M,rfl,ht,hE3⟩
 have e3:=e2.trans hE3
 have HE3:=Lib.hid (HE2.out.trans hE3)
 have hw7:w.heap.size+1<W3.heap.size:=by
  have:=HE3.out.size
  simp at this; omega
 have hP4':(prL b).length≤4:=(ht.open.choose_spec.choose_spec.choose_spec.choose_spec.choose_spec.choose_spec.choose_spec.choose_spec.2).ok.p4
 generalize prL b=P at *
 obtain ⟨sp,cp,sc,lc,cc,sm,lm,cm,rfl,hT⟩:=ht.open
 have hml:=hT.hM.len
 subst hml
 have hcl:=hT.hC.len
 subst hcl
 have hp4:=hT.ok.p4
 have hp0:=hT.ok.p0
 have hm4:=hT.m4
 obtain ⟨psC,hIC⟩:=hT.ok.kC.1
 have hc4:=isH_len hIC
 have HT:=Lib.hid hT
 have eA:=(Ext.refl W3).alloc (.cells #[.slice sp P.length cp,.slice sc C.length cc,.slice sm M.length cm] 34)
 have x0:(W3.alloc (.cells #[.slice sp P.length cp,.slice sc C.length cc,.slice sm M.length cm] 34)).cell? ⟨W3.heap.size,0,none⟩=some (.slice sp P.length cp):=by go_simp
 have x1:(W3.alloc (.cells #[.slice sp P.length cp,.slice sc C.length cc,.slice sm M.length cm] 34)).cell? ⟨W3.heap.size,1,none⟩=some (.slice sc C.length cc):=by go_simp
 have x2:(W3.alloc (.cells #[.slice sp P.length cp,.slice sc C.length cc,.slice sm M.length cm] 34)).cell? ⟨W3.heap.size,2,none⟩=some (.slice sm M.length cm):=by go_simp
 have HCr:=Lib.hid (fun (c:List Int) (hc:c∈C)=>show c.length=P.length ∧ ∀ z∈c,-1000000000≤z∧z≤1000000000 from ⟨hIC.rect c hc,fun z hz=>by have:=hT.ok.bC c hc z hz; omega⟩)
 have eX:=e3.trans eA
 have HcX:=Lib.hid (fun (t:Nat) (ht:t<4) (j:Nat) (hj:j<4)=>And.intro ((HE3.out.trans eA).cell (Hc.out t ht j hj).1) ((HE3.out.trans eA).cell (Hc.out t ht j hj).2))
 have HTX:=Lib.hid (hT.ext eA)
 clear hT ht hmk hE3 e3 hIC p0 p1 p2 HE1 HE2 HE3 Hc HT hX e1 e2
 go_wp2_with fail
 have hX7:(W3.alloc (.cells #[.slice sp P.length cp,.slice sc C.length cc,.slice sm M.length cm] 34)).heap.size=W3.heap.size+1:=by simp
 generalize W3.alloc (.cells #[.slice sp P.length cp,.slice sc C.length cc,.slice sm M.length cm] 34)=X at *
 generalize W3.heap.size=b7 at *
 have HX7:=Lib.hid hX7
 have Hw7:=Lib.hid hw7
 clear eA hP4' hX7 hw7
 go_loopw [8,9] (fun gv iv wr => ∃ i:Nat,i≤P.length∧iv = .int .i64 i∧Hid (GnO X.heap.size wr gv (mkG A B P.length i))∧Ext X wr) (fun _ iv _=>P.length-(intOf iv).toNat)
 case atStart=>exact ⟨0,by omega,by go_num,Lib.hid (GnO.nil _ _),Ext.refl _⟩
 case round =>
  obtain ⟨i,hi,rfl,HG,hE⟩:=hrel
  generalize wr=Y at *
  replace x0:=hE.cell x0
  replace x1:=hE.cell x1
  replace x2:=hE.cell x2
  have eY:=eX.trans hE
  by_cases hlt:i<P.length
  case pos =>
   have hii:(i:Int)<(P.length:Int):=by omega
   obtain ⟨t,ht⟩ : ∃ t,t=i%4:=⟨_,rfl⟩
   have ht4:t<4:=by omega
   have hti:(i:Int).tmod 4=(t:Int):=by rw [Int.tmod_eq_emod_of_nonneg (by omega)]; omega
   have Hp8:=Lib.hid (fun W (hW:Below X.heap.size Y W)=>show W.cell? ⟨w.heap.size+1,t*8,none⟩=some (.int .i8 (A t 0))∧W.cell? ⟨w.heap.size+1,t*8+1,none⟩=some (.int .u8 (B t 0))∧W.cell? ⟨w.heap.size+1,t*8+2,none⟩=some (.int .i8 (A t 1))∧W.cell? ⟨w.heap.size+1,t*8+3,none⟩=some (.int .u8 (B t 1))∧W.cell? ⟨w.heap.size+1,t*8+4,none⟩=some (.int .i8 (A t 2))∧W.cell? ⟨w.heap.size+1,t*8+5,none⟩=some (.int .u8 (B t 2))∧W.cell? ⟨w.heap.size+1,t*8+6,none⟩=some (.int .i8 (A t 3))∧W.cell? ⟨w.heap.size+1,t*8+7,none⟩=some (.int .u8 (B t 3)) by
    have hlt:w.heap.size+1<X.heap.size:=by have:=HX7.out; have:=Hw7.out; omega
    have h0:=HcX.out t ht4 0 (by omega)
    have h1:=HcX.out t ht4 1 (by omega)
    have h2:=HcX.out t ht4 2 (by omega)
    have h3:=HcX.out t ht4 3 (by omega)
    exact ⟨(Below.cell hW hlt).trans (hE.cell h0.1),(Below.cell hW hlt).trans (hE.cell h0.2),(Below.cell hW hlt).trans (hE.cell h1.1),(Below.cell hW hlt).trans (hE.cell h1.2),(Below.cell hW hlt).trans (hE.cell h2.1),(Below.cell hW hlt).trans (hE.cell h2.2),(Below.cell hW hlt).trans (hE.cell h3.1),(Below.cell hW hlt).trans (hE.cell h3.2)⟩)
   obtain ⟨ga,gc,rfl⟩:=HG.out.slice
   rw [mkG_length] at HG ⊢
   have hm13:=Lib.hid (fun W (hW:Ext w W)=>Make13_any (pa:=sp) (np:=P.length) (cp:=cp) (A:=A t) (B:=B t) (fun j=>HB.out t j) (by omega) (HL.out.ext hW))
   have Ht:=Lib.hid ht
   have htI:(t:Int)<4:=by omega
   have hsY:=hE.size
   have HsY:=Lib.hid hsY
   clear ht hlt hsY
   go_wp2_with fail
   have d0E:Ext Y Y.drew:=(Ext.refl Y).drew
   have d0:Below X.heap.size Y Y.drew:=Below.mono d0E HsY.out
   refine wp_region_held_tail (S:=fun W=>Below X.heap.size Y W) 10 (by kernel_rfl) (by simp) ?_
   intro inv
   generalize Y.drew=Y1 at *
   refine wpAnyLH_take (i:=0) (v := .slice ga i gc) rfl (by kernel_rfl) (fun _ _ _ h=>h) (.inl ⟨by rfl,fun W hW=>by go_simp⟩) d0 inv ?_
   intro inv
   go_simp
   refine wpAnyLH_take (i:=1) (v := .pointer (some ⟨b7,0,none⟩)) rfl (by kernel_rfl) (fun _ _ _ h=>h) (.inl ⟨by rfl,fun W hW=>by go_simp⟩) d0 inv ?_
   intro inv
   go_simp
   refine wpAnyLH_take (i:=2) (v := .slice sp P.length cp) rfl (by kernel_rfl) (fun _ _ _ h=>h) (.inl ⟨by rfl,fun W hW=>by have q0:=(Below.cell hW (show b7<X.heap.size by have:=HX7.out; omega)).trans x0; go_simp⟩) d0 inv ?_
   intro inv
   go_simp
   refine wpAnyLH_take (i:=3) (v := .int .i64 i) rfl (by kernel_rfl) (fun _ _ _ h=>h) (.inl ⟨by rfl,fun W hW=>by go_simp⟩) d0 inv ?_
   intro inv
   go_simp
   refine wpAnyLH_take (i:=4) (v := .int .i64 t) rfl (by kernel_rfl) (fun _ _ _ h=>h) (.inl ⟨by rfl,fun W hW=>by go_simp⟩) d0 inv ?_
   intro inv
   go_simp
   refine wpAnyLH_take (i:=5) (v := .pointer (some ⟨w.heap.size+1,t*8,none⟩)) rfl (by kernel_rfl) (fun _ _ _ h=>h) (.inl ⟨by rfl,fun W hW=>by go_simp⟩) d0 inv ?_
   intro inv
   go_simp
   refine wpAnyLH_take (i:=6) (v:=ptsV (A t) (B t)) rfl (by kernel_rfl) (fun _ _ _ h=>h) (.inl ⟨by rfl,fun W hW=>by obtain ⟨q0,q1,q2,q3,q4,q5,q6,q7⟩:=Hp8.out W hW; go_simp⟩) d0 inv ?_
   intro inv
   go_simp
   refine wpAnyLH_oneI (i:=7) rfl (by kernel_rfl) inv (fun inv K0 hK0 => ?_)
   go_simp
   refine (hm13.out _ (eY.trans d0E)).mono ?_
   rintro e Y2 ⟨⟨vv,rfl,hv⟩,hE3⟩
   have d1E:=d0E.trans hE3
   have Hv:=Lib.hid hv
   obtain ⟨va,vl,vc,rfl⟩:=hv.slice
   refine hK0 _ _ (Below.mono d1E HsY.out) ?_
   clear hK0 hv
   refine wpAnyLH_oneI (i:=8) rfl (by kernel_rfl) inv (fun inv K0 hK0 => ?_)
   go_simp
   have d2E:=d1E.alloc (.cells #[.slice va vl vc] 60)
   have d2:Below X.heap.size Y (Y2.alloc (.cells #[.slice va vl vc] 60)):=Below.mono d2E HsY.out
   refine hK0 _ _ d2 ?_
   clear hK0
   refine wpAnyLH_oneI (i:=9) rfl (by kernel_rfl) inv (fun inv K0 hK0 => ?_)
   refine app_gn_step (by rfl) _ _ 65 Tryz.underlying65 (by rfl) (by rfl) (HG.out.ext d2E) (b:=Y2.heap.size) (by rfl) (u := .slice va vl vc) (r:=mk13L (A t) (B t) P.length) (by go_simp) ((Hv.out.mono (by have:=d0E.size; have:=HsY.out; omega)).ext ((Ext.refl _).alloc _)) (by rw [mkG_length]; omega) (by have:=d2E.size; have:=HsY.out; omega) ?_
   intro g9 c9 W9 hO9 hB9 hG9
   rw [mkG_length] at hO9 ⊢
   rw [Ht.out,mkG_snoc] at hO9
   have d9:=d2.trans hB9
   have d9X:Ext X W9:=Ext.mk' (Below.trans hE d9)
   refine hK0 _ _ d9 ?_
   clear hK0
   refine wpAnyLH_end (by kernel_rfl) ?_
   have HO9:=Lib.hid hO9
   clear hO9 hB9 hG9 inv d0 d0E d1E d2 d2E d9 hE3 hm13
   go_wp2_with fail
   go_roundw
   case rel=>exact ⟨i+1,by omega,by go_num,HO9,d9X⟩
   case measure=>simp [intOf] <;> omega
  obtain rfl:i=P.length:=by omega
  have hii : ¬ (P.length:Int)<(P.length:Int):=by omega
  have htw:=Lib.hid (fun l hl=>(mkG_tw (A:=A) (B:=B) (np:=P.length) (k:=P.length) l hl))
  have HLl:=Lib.hid (mkG_length A B P.length P.length)
  obtain ⟨L,hL⟩ : ∃ L,L=mkG A B P.length P.length:=⟨_,rfl⟩
  rw [← hL] at HG htw HLl
  clear hL hlt hi HcX HB
  have HGr:=Lib.hid HG.out.read
  obtain ⟨vs,hv1,hv2,hv3⟩:=HG.out
  have hex : ∃ g cap,u8 = .slice (some ⟨g,0,none⟩) P.length cap∧P.length≤cap:=by
   rcases hv2.2 with ⟨_,h0⟩ | ⟨g,cap,cur,he,hb,hg,hn,hm,hs,ht⟩
   ·rw [HLl.out] at h0; omega
   ·rw [HLl.out] at he hn
    exact ⟨g,cap,he,hn⟩
  obtain ⟨gg,gc,rfl,hgc⟩:=hex
  clear hv1 hv2 hv3 HG
  have HTY:=Lib.hid (HTX.out.ext hE)
  cases less
  case true =>
   have hsz:=Lib.hid (fun W sz cz (hW:Ext Y W)=>tuFrom_size (sz:=sz) (cz:=cz) (nz:=P.length-1) (HTY.out.ext hW) (by omega) (HL.out.ext (eY.trans hW)))
   have h1I:(1:Int)≤(P.length:Int):=by omega
   have hgI:(P.length:Int)≤(gc:Int):=by omega
   clear HGr htw HLl HTX hE
   by_cases hg1:gc=1
   case pos =>
    go_wp2_with fail
    refine (hsz.out _ _ _ (Ext.refl _)).mono ?_
    rintro e V ⟨rfl,hEV⟩
    have eV:=eY.trans hEV
    have eB:=eV.alloc (.cells #[.slice none 0 0,.slice none 0 0,.slice none 0 0,.slice none 0 0] 67)
    have z0:(V.alloc (.cells #[.slice none 0 0,.slice none 0 0,.slice none 0 0,.slice none 0 0] 67)).cell? ⟨V.heap.size,0,none⟩=some (.slice none 0 0):=by go_simp
    have z1:(V.alloc (.cells #[.slice none 0 0,.slice none 0 0,.slice none 0 0,.slice none 0 0] 67)).cell? ⟨V.heap.size,1,none⟩=some (.slice none 0 0):=by go_simp
    have z2:(V.alloc (.cells #[.slice none 0 0,.slice none 0 0,.slice none 0 0,.slice none 0 0] 67)).cell? ⟨V.heap.size,2,none⟩=some (.slice none 0 0):=by go_simp
    have z3:(V.alloc (.cells #[.slice none 0 0,.slice none 0 0,.slice none 0 0,.slice none 0 0] 67)).cell? ⟨V.heap.size,3,none⟩=some (.slice none 0 0):=by go_simp
    go_wp2_with fail
    refine blankZ_any.mono ?_
    rintro e V2 ⟨rfl,hEV2⟩
    go_wp2_with fail
    go_ret
    exact ⟨rfl,eB.trans hEV2⟩
   case neg =>
    go_wp2_with fail
    refine (hsz.out _ _ _ (Ext.refl _)).mono ?_
    rintro e V ⟨rfl,hEV⟩
    have eV:=eY.trans hEV
    have eB:=eV.alloc (.cells #[.slice none 0 0,.slice none 0 0,.slice none 0 0,.slice none 0 0] 67)
    have z0:(V.alloc (.cells #[.slice none 0 0,.slice none 0 0,.slice none 0 0,.slice none 0 0] 67)).cell? ⟨V.heap.size,0,none⟩=some (.slice none 0 0):=by go_simp
    have z1:(V.alloc (.cells #[.slice none 0 0,.slice none 0 0,.slice none 0 0,.slice none 0 0] 67)).cell? ⟨V.heap.size,1,none⟩=some (.slice none 0 0):=by go_simp
    have z2:(V.alloc (.cells #[.slice none 0 0,.slice none 0 0,.slice none 0 0,.slice none 0 0] 67)).cell? ⟨V.heap.size,2,none⟩=some (.slice none 0 0):=by go_simp
    have z3:(V.alloc (.cells #[.slice none 0 0,.slice none 0 0,.slice none 0 0,.slice none 0 0] 67)).cell? ⟨V.heap.size,3,none⟩=some (.slice none 0 0):=by go_simp
    go_wp2_with fail
    refine blankZ_any.mono ?_
    rintro e V2 ⟨rfl,hEV2⟩
    go_wp2_with fail
    go_ret
    exact ⟨rfl,eB.trans hEV2⟩
  case false =>
   have Hfr:=Lib.hid (fun W (hW:Ext Y W)=>show Calls Tryz.prog 40 #[tmS P sp cp sc C.length cc sm M.length cm,.slice (some ⟨gg,0,none⟩) P.length gc] W (fun e w'=>((∃ c∈C,∃ r∈cmbQ L (nbL c) P.length,r.num≠0)∧e = .returned (.tuple #[tuZ,.int .i64 26])∧Ext W w')∨((∀ c∈C,∀ r∈cmbQ L (nbL c) P.length,r.num=0)∧(∃ S t,e = .returned (.tuple #[t,.int .i64 0])∧TuR w' t P C M (frG P.length L S) ∧ ∀ i,i<P.length→tuL P.length M (frG P.length L S) (unitL P.length i)=L.getD i [])∧Ext W w')) by
    have hg:GnR W (.slice (some ⟨gg,0,none⟩) L.length gc) L:=by rw [HLl.out]; exact HGr.out.ext hW
    have h:=tuFrom_any (sz:=some ⟨gg,0,none⟩) (cz:=gc) (L:=L) (HTY.out.ext hW) hg HLl.out (fun l hl=>(htw.out l hl).1) (fun l hl=>tw_sh (htw.out l hl).2) (HL.out.ext (eY.trans hW))
    rw [HLl.out] at h
    exact h.mono fun e w' h=>fp_yes h HTY.out.ok HLl.out (fun l hl=>(htw.out l hl).1) (fun l hl=>(htw.out l hl).2))
   have Hcb:=Lib.hid (fun W fv (c:List Int) (hW:Ext Y W) (hc:c∈C) (hfv:SzR W fv (nbL c))=>combine24_any (np:=P.length) (HGr.out.ext hW) hfv (fun l hl=>(htw.out l hl).1) (by rw [nbL_length,(HCr.out c hc).1,HLl.out]; exact Nat.le_refl _) (fun s hs=>shQ_nd (tw_sh (htw.out s hs).2) (by omega)) (nbL_nd (HCr.out c hc).2 (by omega)) (by omega) (by rw [HLl.out]; omega) (HL.out.ext (eY.trans hW)))
   have Hfc:=Lib.hid (fun W v (c:List Int) (hW:Ext Y W) (hc:c∈C) (hv:RowR W v c)=>factors24_any hv (by rw [(HCr.out c hc).1]; omega) (fun z hz=>by unfold I64; have:=(HCr.out c hc).2 z hz; omega) (HL.out.ext (eY.trans hW)))
   obtain ⟨sc',gcm,ocm,ccm,vc,ec,hcc,hvlc,hSc,hrc⟩:=HTY.out.hC
   injection ec with r1 r2 r3
   clear r2
   subst r1 r3
   have HVc:=Lib.hid hvlc
   have HSc:=Lib.hid hSc
   have HRc:=Lib.hid hrc
   clear hcc hvlc hSc hrc HTX hgc hE
   go_wp2_with fail
   refine (Hfr.out _ (Ext.refl _)).mono ?_
   rintro e V (⟨hex,rfl,hEV⟩ | ⟨hz,⟨S,t,rfl,hTR,hbk⟩,hEV⟩)
   ·have hex:=Lib.hid hex
    have eB:=(Ext.refl V).alloc (.cells #[.slice none 0 0,.slice none 0 0,.slice none 0 0,.slice none 0 0] 67)
    have z0:(V.alloc (.cells #[.slice none 0 0,.slice none 0 0,.slice none 0 0,.slice none 0 0] 67)).cell? ⟨V.heap.size,0,none⟩=some (.slice none 0 0):=by go_simp
    have z1:(V.alloc (.cells #[.slice none 0 0,.slice none 0 0,.slice none 0 0,.slice none 0 0] 67)).cell? ⟨V.heap.size,1,none⟩=some (.slice none 0 0):=by go_simp
    have z2:(V.alloc (.cells #[.slice none 0 0,.slice none 0 0,.slice none 0 0,.slice none 0 0] 67)).cell? ⟨V.heap.size,2,none⟩=some (.slice none 0 0):=by go_simp
    have z3:(V.alloc (.cells #[.slice none 0 0,.slice none 0 0,.slice none 0 0,.slice none 0 0] 67)).cell? ⟨V.heap.size,3,none⟩=some (.slice none 0 0):=by go_simp
    replace x0:=(hEV.trans eB).cell x0
    replace x1:=(hEV.trans eB).cell x1
    replace x2:=(hEV.trans eB).cell x2
    have eD:=hEV.trans eB
    clear eB Hfr
    go_wp2_with fail
    generalize V.alloc (.cells #[.slice none 0 0,.slice none 0 0,.slice none 0 0,.slice none 0 0] 67)=D at *
    generalize V.heap.size=b9 at *
    go_loopw [12] (fun iv wr => ∃ i:Nat,i≤C.length∧iv = .int .i64 i∧Hid (∀ j (h:j<C.length),j<i → ∀ r∈cmbQ L (nbL C[j]) P.length,r.num=0)∧Ext D wr) (fun iv _=>C.length-(intOf iv).toNat)
    case atStart=>exact ⟨0,by omega,by go_num,Lib.hid (fun j _ h=>by omega),Ext.refl _⟩
    case round =>
     obtain ⟨i,hi,rfl,hZ,hE⟩:=hrel
     generalize wr=U at *
     have eU:=eD.trans hE
     replace x0:=hE.cell x0
     replace x1:=hE.cell x1
     replace x2:=hE.cell x2
     replace z0:=hE.cell z0
     replace z1:=hE.cell z1
     replace z2:=hE.cell z2
     replace z3:=hE.cell z3
     by_cases hlt:i<C.length
     case pos =>
      have hii:(i:Int)<(C.length:Int):=by omega
      have hiv:i<vc.length:=by rw [HVc.out]; exact hlt
      obtain rfl:=HSc.out.addr (by omega)
      have c0:=eU.cell (HSc.out.cell i _ (List.getElem?_eq_getElem hiv))
      obtain ⟨q1,q2⟩:=HCr.out C[i] (List.getElem_mem hlt)
      have hrow:=(HRc.out i hlt hiv).ext eU
      obtain ⟨ra,rg,ro,rk,er,hr1,hr2⟩:=id hrow
      rw [er] at c0 hrow
      rw [q1] at c0 hrow
      have Hrow:=Lib.hid hrow
      have hcb:=Lib.hid (fun W fv hW=>Hcb.out W fv C[i] hW (List.getElem_mem hlt))
      have hfc:=Lib.hid (fun W v hW=>Hfc.out W v C[i] hW (List.getElem_mem hlt))
      have HZn:=Lib.hid (fun (h : ∀ r∈cmbQ L (nbL C[i]) P.length,r.num=0) j (hj:j<C.length) (h2:j<i+1)=>show ∀ r∈cmbQ L (nbL C[j]) P.length,r.num=0 by
       rcases Nat.lt_or_ge j i with h3 | h3
       ·exact hZ.out j hj h3
       ·obtain rfl:j=i:=by omega
        exact h)
      generalize C[i]=c at *
      clear q1 q2 er hr1 hr2 hrow hZ hlt hiv
      go_wp2_with fail
      have d0:Ext U U.drew:=(Ext.refl U).drew
      refine wp_region_held_tail (S:=fun W=>Ext U W) 11 (by kernel_rfl) (by simp) ?_
      intro inv
      generalize U.drew=U1 at *
      refine wpAnyLH_take (i:=0) (v := .slice (some ⟨gg,0,none⟩) P.length gc) rfl (by kernel_rfl) (fun _ _ _ h=>h) (.inl ⟨by rfl,fun W hW=>by go_simp⟩) d0 inv ?_
      intro inv
      go_simp
      refine wpAnyLH_take (i:=1) (v := .pointer (some ⟨b7,1,none⟩)) rfl (by kernel_rfl) (fun _ _ _ h=>h) (.inl ⟨by rfl,fun W hW=>by go_simp⟩) d0 inv ?_
      intro inv
      go_simp
      refine wpAnyLH_take (i:=2) (v := .slice (some ⟨gcm,ocm,none⟩) C.length cc) rfl (by kernel_rfl) (fun _ _ _ h=>h) (.inl ⟨by rfl,fun W hW=>by have q0:=hW.cell x1; go_simp⟩) d0 inv ?_
      intro inv
      go_simp
      refine wpAnyLH_take (i:=3) (v := .int .i64 i) rfl (by kernel_rfl) (fun _ _ _ h=>h) (.inl ⟨by rfl,fun W hW=>by go_simp⟩) d0 inv ?_
      intro inv
      go_simp
      refine wpAnyLH_take (i:=4) (v := .pointer (some ⟨gcm,ocm+i,none⟩)) rfl (by kernel_rfl) (fun _ _ _ h=>h) (.inl ⟨by rfl,fun W hW=>by go_simp⟩) d0 inv ?_
      intro inv
      go_simp
      refine wpAnyLH_take (i:=5) (v := .slice ra P.length rk) rfl (by kernel_rfl) (fun _ _ _ h=>h) (.inl ⟨by rfl,fun W hW=>by have q0:=hW.cell c0; go_simp⟩) d0 inv ?_
      intro inv
      go_simp
      refine wpAnyLH_take (i:=7) (v := .pointer (some ⟨b7,0,none⟩)) rfl (by kernel_rfl) (fun _ _ _ h=>h) (.inl ⟨by rfl,fun W hW=>by go_simp⟩) d0 inv ?_
      intro inv
      go_simp
      refine wpAnyLH_take (i:=8) (v := .slice sp P.length cp) rfl (by kernel_rfl) (fun _ _ _ h=>h) (.inl ⟨by rfl,fun W hW=>by have q0:=hW.cell x0; go_simp⟩) d0 inv ?_
      intro inv
      go_simp
      refine wpAnyLH_take (i:=9) (v := .int .i64 P.length) rfl (by kernel_rfl) (fun _ _ _ h=>h) (.inl ⟨by rfl,fun W hW=>by go_simp⟩) d0 inv ?_
      intro inv
      go_simp
      refine wpAnyLH_oneI (i:=6) rfl (by kernel_rfl) inv (fun inv K0 hK0 => ?_)
      go_simp
      refine (hfc.out _ _ (eU.trans d0) (Hrow.out.ext d0)).mono ?_
      rintro e U2 ⟨⟨u,rfl,hU⟩,hG⟩
      have d1:=d0.trans hG
      have HU:=Lib.hid hU.read
      refine hK0 _ _ d1 ?_
      clear hK0 hU hG
      refine wpAnyLH_oneI (i:=10) rfl (by kernel_rfl) inv (fun inv K0 hK0 => ?_)
      go_simp
      refine (hcb.out _ _ (eU.trans d1) HU.out).mono ?_
      rintro e U3 ⟨⟨gq,rfl,hQ⟩,hG⟩
      have d2:=d1.trans hG
      have HQ:=Lib.hid (show SzR U3 (slv gq P.length P.length) (cmbQ L (nbL c) P.length) from by
       have:=hQ.val.read
       rwa [cmbQ_length] at this)
      refine hK0 _ _ d2 ?_
      clear hK0 hQ hG HU
      refine wpAnyLH_end (by kernel_rfl) ?_
      have Hql:=Lib.hid (cmbQ_length L (nbL c) P.length)
      obtain ⟨s,hs⟩ : ∃ s,s=cmbQ L (nbL c) P.length:=⟨_,rfl⟩
      rw [← hs] at HQ HZn Hql
      replace x0:=d2.cell x0
      replace x1:=d2.cell x1
      replace x2:=d2.cell x2
      replace z0:=d2.cell z0
      replace z1:=d2.cell z1
      replace z2:=d2.cell z2
      replace z3:=d2.cell z3
      replace hE:=hE.trans d2
      have eU3:=eD.trans hE
      clear inv d0 d1 d2 c0 hs eU Hrow hcb hfc
      obtain ⟨qa,qb,qo,qk,eq,_,qaa,qr⟩:=HQ.out
      rw [Hql.out] at eq qaa
      injection eq with eq1 eq2 eq3
      have eqa:=qaa hp0
      rw [eqa] at eq1
      injection eq1 with eq1
      injection eq1 with eq4 eq5
      clear eq2 eq3 qaa eqa
      subst eq4 eq5
      have HQr:=Lib.hid qr
      clear qr
      go_wp2_with fail
      go_loopw [14] (fun iv wr => ∃ t:Nat,t≤P.length∧iv = .int .i64 t∧Hid (∀ j (h:j<s.length),j<t→s[j].num=0)∧Ext U3 wr) (fun iv _=>P.length-(intOf iv).toNat)
      case atStart=>exact ⟨0,by omega,by go_num,Lib.hid (fun j _ h=>by omega),Ext.refl _⟩
      case round =>
       obtain ⟨t,ht,rfl,hZt,hEt⟩:=hrel
       generalize wr=Q at *
       by_cases htl:t<P.length
       case neg =>
        obtain rfl:t=P.length:=by omega
        have htt : ¬ (P.length:Int)<(P.length:Int):=by omega
        have HZ2:=Lib.hid (HZn.out (fun r hr=>by
         obtain ⟨j,hj,rfl⟩:=List.getElem_of_mem hr
         exact hZt.out j hj (by have:=Hql.out; omega)))
        clear htl hZt HZn
        go_wp2_with fail
        go_roundw
        case rel=>exact ⟨i+1,by omega,by go_num,HZ2,hE.trans hEt⟩
        case measure=>simp [intOf] <;> omega
       have htt:(t:Int)<(P.length:Int):=by omega
       have htq:t<s.length:=by rw [Hql.out]; exact htl
       obtain ⟨k0,k1⟩:=HQr.out t htq
       rw [Nat.zero_add] at k0 k1
       replace k0:=hEt.cell k0
       replace k1:=hEt.cell k1
       have hsg:=Lib.hid (fun W=>fSign_any s[t].num s[t].den W)
       by_cases h0:s[t].num=0
       case pos =>
        have hg0:s[t].num.sign=0:=by rw [h0]; rfl
        rw [hg0] at hsg
        have HZ3:=Lib.hid (fun j (hj:j<s.length) (h2:j<t+1)=>show s[j].num=0 by
         rcases Nat.lt_or_ge j t with h3 | h3
         ·exact hZt.out j hj h3
         ·obtain rfl:j=t:=by omega
          exact h0)
        clear h0 hZt hg0 HZn
        generalize s[t].num=sn at *
        generalize ((s[t].den:Nat):Int)=sd at *
        go_wp2_with fail
        refine (hsg.out _).mono ?_
        rintro e Q2 ⟨rfl,hE2⟩
        go_wp2_with fail
        go_roundw
        case rel=>exact ⟨t+1,by omega,by go_num,HZ3,hEt.trans hE2⟩
        case measure=>simp [intOf] <;> omega
       have hg0 : ¬ s[t].num.sign=0:=fun e=>h0 (Int.sign_eq_zero_iff_zero.1 e)
       have hg1:(s[t].num.sign != 0)=true:=by simp [hg0]
       clear h0 hZt HZn
       generalize s[t].num=sn at *
       generalize ((s[t].den:Nat):Int)=sd at *
       generalize sn.sign=sg at *
       go_wp2_with fail
       refine (hsg.out _).mono ?_
       rintro e Q2 ⟨rfl,hE2⟩
       replace z0:=(hEt.trans hE2).cell z0
       replace z1:=(hEt.trans hE2).cell z1
       replace z2:=(hEt.trans hE2).cell z2
       replace z3:=(hEt.trans hE2).cell z3
       have eQ:=eU3.trans (hEt.trans hE2)
       go_wp2_with fail
       refine blankZ_any.mono ?_
       rintro e Q3 ⟨rfl,hE3⟩
       go_wp2_with fail
       go_ret
       exact ⟨rfl,eY.trans (eQ.trans hE3)⟩
     obtain rfl:i=C.length:=by omega
     have hii : ¬ (C.length:Int)<(C.length:Int):=by omega
     obtain ⟨c,hc,r,hr,hn⟩:=hex.out
     obtain ⟨j,hj,rfl⟩:=List.getElem_of_mem hc
     exact absurd (hZ.out j hj hj r hr) hn
   ·obtain ⟨tsp,tcp,tsc,tlc,tcc,tsm,tlm,tcm,tsg,tlg,tcg,rfl,hTV⟩:=hTR
    have hgl:=hTV.gn.len
    have hln:=hTV.ln
    generalize frG P.length L S=G at *
    have hgm:tlg=M.length:=by omega
    subst hgm
    have hz:=Lib.hid hz
    have Hbk:=Lib.hid hbk
    clear hgl hln hbk
    have HTVD:=Lib.hid (hTV.ext ((Ext.refl V).alloc (.cells #[.slice tsp P.length tcp,.slice tsc tlc tcc,.slice tsm tlm tcm,.slice tsg M.length tcg] 67)))
    clear hTV
    have eB:=(Ext.refl V).alloc (.cells #[.slice tsp P.length tcp,.slice tsc tlc tcc,.slice tsm tlm tcm,.slice tsg M.length tcg] 67)
    have z0:(V.alloc (.cells #[.slice tsp P.length tcp,.slice tsc tlc tcc,.slice tsm tlm tcm,.slice tsg M.length tcg] 67)).cell? ⟨V.heap.size,0,none⟩=some (.slice tsp P.length tcp):=by go_simp
    have z1:(V.alloc (.cells #[.slice tsp P.length tcp,.slice tsc tlc tcc,.slice tsm tlm tcm,.slice tsg M.length tcg] 67)).cell? ⟨V.heap.size,1,none⟩=some (.slice tsc tlc tcc):=by go_simp
    have z2:(V.alloc (.cells #[.slice tsp P.length tcp,.slice tsc tlc tcc,.slice tsm tlm tcm,.slice tsg M.length tcg] 67)).cell? ⟨V.heap.size,2,none⟩=some (.slice tsm tlm tcm):=by go_simp
    have z3:(V.alloc (.cells #[.slice tsp P.length tcp,.slice tsc tlc tcc,.slice tsm tlm tcm,.slice tsg M.length tcg] 67)).cell? ⟨V.heap.size,3,none⟩=some (.slice tsg M.length tcg):=by go_simp
    replace x0:=(hEV.trans eB).cell x0
    replace x1:=(hEV.trans eB).cell x1
    replace x2:=(hEV.trans eB).cell x2
    have eD:=hEV.trans eB
    clear eB Hfr
    go_wp2_with fail
    generalize V.alloc (.cells #[.slice tsp P.length tcp,.slice tsc tlc tcc,.slice tsm tlm tcm,.slice tsg M.length tcg] 67)=D at *
    generalize V.heap.size=b9 at *
    go_loopw [12] (fun iv wr => ∃ i:Nat,i≤C.length∧iv = .int .i64 i∧Hid (∀ j (h:j<C.length),j<i → ∀ r∈cmbQ L (nbL C[j]) P.length,r.num=0)∧Ext D wr) (fun iv _=>C.length-(intOf iv).toNat)
    case atStart=>exact ⟨0,by omega,by go_num,Lib.hid (fun j _ h=>by omega),Ext.refl _⟩
    case round =>
     obtain ⟨i,hi,rfl,hZ,hE⟩:=hrel
     generalize wr=U at *
     have eU:=eD.trans hE
     replace x0:=hE.cell x0
     replace x1:=hE.cell x1
     replace x2:=hE.cell x2
     replace z0:=hE.cell z0
     replace z1:=hE.cell z1
     replace z2:=hE.cell z2
     replace z3:=hE.cell z3
     by_cases hlt:i<C.length
     case pos =>
      have hii:(i:Int)<(C.length:Int):=by omega
      have hiv:i<vc.length:=by rw [HVc.out]; exact hlt
      obtain rfl:=HSc.out.addr (by omega)
      have c0:=eU.cell (HSc.out.cell i _ (List.getElem?_eq_getElem hiv))
      obtain ⟨q1,q2⟩:=HCr.out C[i] (List.getElem_mem hlt)
      have hrow:=(HRc.out i hlt hiv).ext eU
      obtain ⟨ra,rg,ro,rk,er,hr1,hr2⟩:=id hrow
      rw [er] at c0 hrow
      rw [q1] at c0 hrow
      have Hrow:=Lib.hid hrow
      have hcb:=Lib.hid (fun W fv hW=>Hcb.out W fv C[i] hW (List.getElem_mem hlt))
      have hfc:=Lib.hid (fun W v hW=>Hfc.out W v C[i] hW (List.getElem_mem hlt))
      have HZn:=Lib.hid (fun (h : ∀ r∈cmbQ L (nbL C[i]) P.length,r.num=0) j (hj:j<C.length) (h2:j<i+1)=>show ∀ r∈cmbQ L (nbL C[j]) P.length,r.num=0 by
       rcases Nat.lt_or_ge j i with h3 | h3
       ·exact hZ.out j hj h3
       ·obtain rfl:j=i:=by omega
        exact h)
      have Hzc:=Lib.hid (hz.out C[i] (List.getElem_mem hlt))
      generalize C[i]=c at *
      clear q1 q2 er hr1 hr2 hrow hZ hlt hiv
      go_wp2_with fail
      have d0:Ext U U.drew:=(Ext.refl U).drew
      refine wp_region_held_tail (S:=fun W=>Ext U W) 11 (by kernel_rfl) (by simp) ?_
      intro inv
      generalize U.drew=U1 at *
      refine wpAnyLH_take (i:=0) (v := .slice (some ⟨gg,0,none⟩) P.length gc) rfl (by kernel_rfl) (fun _ _ _ h=>h) (.inl ⟨by rfl,fun W hW=>by go_simp⟩) d0 inv ?_
      intro inv
      go_simp
      refine wpAnyLH_take (i:=1) (v := .pointer (some ⟨b7,1,none⟩)) rfl (by kernel_rfl) (fun _ _ _ h=>h) (.inl ⟨by rfl,fun W hW=>by go_simp⟩) d0 inv ?_
      intro inv
      go_simp
      refine wpAnyLH_take (i:=2) (v := .slice (some ⟨gcm,ocm,none⟩) C.length cc) rfl (by kernel_rfl) (fun _ _ _ h=>h) (.inl ⟨by rfl,fun W hW=>by have q0:=hW.cell x1; go_simp⟩) d0 inv ?_
      intro inv
      go_simp
      refine wpAnyLH_take (i:=3) (v := .int .i64 i) rfl (by kernel_rfl) (fun _ _ _ h=>h) (.inl ⟨by rfl,fun W hW=>by go_simp⟩) d0 inv ?_
      intro inv
      go_simp
      refine wpAnyLH_take (i:=4) (v := .pointer (some ⟨gcm,ocm+i,none⟩)) rfl (by kernel_rfl) (fun _ _ _ h=>h) (.inl ⟨by rfl,fun W hW=>by go_simp⟩) d0 inv ?_
      intro inv
      go_simp
      refine wpAnyLH_take (i:=5) (v := .slice ra P.length rk) rfl (by kernel_rfl) (fun _ _ _ h=>h) (.inl ⟨by rfl,fun W hW=>by have q0:=hW.cell c0; go_simp⟩) d0 inv ?_
      intro inv
      go_simp
      refine wpAnyLH_take (i:=7) (v := .pointer (some ⟨b7,0,none⟩)) rfl (by kernel_rfl) (fun _ _ _ h=>h) (.inl ⟨by rfl,fun W hW=>by go_simp⟩) d0 inv ?_
      intro inv
      go_simp
      refine wpAnyLH_take (i:=8) (v := .slice sp P.length cp) rfl (by kernel_rfl) (fun _ _ _ h=>h) (.inl ⟨by rfl,fun W hW=>by have q0:=hW.cell x0; go_simp⟩) d0 inv ?_
      intro inv
      go_simp
      refine wpAnyLH_take (i:=9) (v := .int .i64 P.length) rfl (by kernel_rfl) (fun _ _ _ h=>h) (.inl ⟨by rfl,fun W hW=>by go_simp⟩) d0 inv ?_
      intro inv
      go_simp
      refine wpAnyLH_oneI (i:=6) rfl (by kernel_rfl) inv (fun inv K0 hK0 => ?_)
      go_simp
      refine (hfc.out _ _ (eU.trans d0) (Hrow.out.ext d0)).mono ?_
      rintro e U2 ⟨⟨u,rfl,hU⟩,hG⟩
      have d1:=d0.trans hG
      have HU:=Lib.hid hU.read
      refine hK0 _ _ d1 ?_
      clear hK0 hU hG
      refine wpAnyLH_oneI (i:=10) rfl (by kernel_rfl) inv (fun inv K0 hK0 => ?_)
      go_simp
      refine (hcb.out _ _ (eU.trans d1) HU.out).mono ?_
      rintro e U3 ⟨⟨gq,rfl,hQ⟩,hG⟩
      have d2:=d1.trans hG
      have HQ:=Lib.hid (show SzR U3 (slv gq P.length P.length) (cmbQ L (nbL c) P.length) from by
       have:=hQ.val.read
       rwa [cmbQ_length] at this)
      refine hK0 _ _ d2 ?_
      clear hK0 hQ hG HU
      refine wpAnyLH_end (by kernel_rfl) ?_
      have Hql:=Lib.hid (cmbQ_length L (nbL c) P.length)
      obtain ⟨s,hs⟩ : ∃ s,s=cmbQ L (nbL c) P.length:=⟨_,rfl⟩
      rw [← hs] at HQ HZn Hql
      rw [← hs] at Hzc
      replace x0:=d2.cell x0
      replace x1:=d2.cell x1
      replace x2:=d2.cell x2
      replace z0:=d2.cell z0
      replace z1:=d2.cell z1
      replace z2:=d2.cell z2
      replace z3:=d2.cell z3
      replace hE:=hE.trans d2
      have eU3:=eD.trans hE
      clear inv d0 d1 d2 c0 hs eU Hrow hcb hfc
      obtain ⟨qa,qb,qo,qk,eq,_,qaa,qr⟩:=HQ.out
      rw [Hql.out] at eq qaa
      injection eq with eq1 eq2 eq3
      have eqa:=qaa hp0
      rw [eqa] at eq1
      injection eq1 with eq1
      injection eq1 with eq4 eq5
      clear eq2 eq3 qaa eqa
      subst eq4 eq5
      have HQr:=Lib.hid qr
      clear qr
      go_wp2_with fail
      go_loopw [14] (fun iv wr => ∃ t:Nat,t≤P.length∧iv = .int .i64 t∧Hid (∀ j (h:j<s.length),j<t→s[j].num=0)∧Ext U3 wr) (fun iv _=>P.length-(intOf iv).toNat)
      case atStart=>exact ⟨0,by omega,by go_num,Lib.hid (fun j _ h=>by omega),Ext.refl _⟩
      case round =>
       obtain ⟨t,ht,rfl,hZt,hEt⟩:=hrel
       generalize wr=Q at *
       by_cases htl:t<P.length
       case neg =>
        obtain rfl:t=P.length:=by omega
        have htt : ¬ (P.length:Int)<(P.length:Int):=by omega
        have HZ2:=Lib.hid (HZn.out (fun r hr=>by
         obtain ⟨j,hj,rfl⟩:=List.getElem_of_mem hr
         exact hZt.out j hj (by have:=Hql.out; omega)))
        clear htl hZt HZn
        go_wp2_with fail
        go_roundw
        case rel=>exact ⟨i+1,by omega,by go_num,HZ2,hE.trans hEt⟩
        case measure=>simp [intOf] <;> omega
       have htt:(t:Int)<(P.length:Int):=by omega
       have htq:t<s.length:=by rw [Hql.out]; exact htl
       obtain ⟨k0,k1⟩:=HQr.out t htq
       rw [Nat.zero_add] at k0 k1
       replace k0:=hEt.cell k0
       replace k1:=hEt.cell k1
       have hsg:=Lib.hid (fun W=>fSign_any s[t].num s[t].den W)
       by_cases h0:s[t].num=0
       case pos =>
        have hg0:s[t].num.sign=0:=by rw [h0]; rfl
        rw [hg0] at hsg
        have HZ3:=Lib.hid (fun j (hj:j<s.length) (h2:j<t+1)=>show s[j].num=0 by
         rcases Nat.lt_or_ge j t with h3 | h3
         ·exact hZt.out j hj h3
         ·obtain rfl:j=t:=by omega
          exact h0)
        clear h0 hZt hg0 HZn
        generalize s[t].num=sn at *
        generalize ((s[t].den:Nat):Int)=sd at *
        go_wp2_with fail
        refine (hsg.out _).mono ?_
        rintro e Q2 ⟨rfl,hE2⟩
        go_wp2_with fail
        go_roundw
        case rel=>exact ⟨t+1,by omega,by go_num,HZ3,hEt.trans hE2⟩
        case measure=>simp [intOf] <;> omega
       exact absurd (Hzc.out _ (List.getElem_mem htq)) h0
     obtain rfl:i=C.length:=by omega
     have hii : ¬ (C.length:Int)<(C.length:Int):=by omega
     have HTU:=Lib.hid (HTVD.out.ext hE)
     have HTz:=Lib.hid (HTY.out.ext eU)
     have Hs18:=Lib.hid (fun W (hW:Ext U W)=>Same18_any (HTU.out.tm.ext hW) (HTz.out.ext hW))
     simp only [and_self,decide_true] at Hs18
     have Hso:=Lib.hid (fun W s n c i (hW:Ext U W) (hx:RowR W (.slice s n c) (unitL P.length i))=>sizeOf24_any (HTU.out.ext hW) hx (tuE_unit HTU.out.tm.ok i) (HL.out.ext (eY.trans (eU.trans hW))))
     clear hlt hZ Hcb Hfc HSc HVc HRc hi
     go_wp2_with fail
     refine (Hs18.out _ (Ext.refl _)).mono ?_
     rintro e V2 ⟨rfl,hE2⟩
     obtain ⟨sva,gv,gov,cvv,vv,ev,hcv,hvl,hSv,hrv⟩:=HGr.out
     rw [HLl.out] at ev
     injection ev with ev1 ev2 ev3
     clear ev2
     subst ev3
     have hav:=hSv.addr (by rw [hvl,HLl.out]; exact hp0)
     rw [hav] at ev1
     injection ev1 with ev1
     injection ev1 with ev4 ev5
     subst ev4 ev5
     have HVl:=Lib.hid (hvl.trans HLl.out)
     have HSv:=Lib.hid hSv
     have HRv:=Lib.hid hrv
     clear hvl hSv hrv hcv hav HTz
     replace x0:=hE2.cell x0
     replace x1:=hE2.cell x1
     replace x2:=hE2.cell x2
     replace z0:=hE2.cell z0
     replace z1:=hE2.cell z1
     replace z2:=hE2.cell z2
     replace z3:=hE2.cell z3
     have eV2:=eU.trans hE2
     obtain ⟨i0,hi0,hz0,hz1,hz2⟩:=info_parts Tryz.infoInt
     go_wp2_with fail
     go_loopw [15] (fun iv wr => ∃ i:Nat,i≤P.length∧iv = .int .i64 i∧Ext V2 wr) (fun iv _=>P.length-(intOf iv).toNat)
     case atStart=>exact ⟨0,by omega,by go_num,Ext.refl _⟩
     case round =>
      obtain ⟨i,hi,rfl,hEw⟩:=hrel
      generalize wr=R at *
      replace x0:=hEw.cell x0
      replace x1:=hEw.cell x1
      replace x2:=hEw.cell x2
      replace z0:=hEw.cell z0
      replace z1:=hEw.cell z1
      replace z2:=hEw.cell z2
      replace z3:=hEw.cell z3
      have eR:=eV2.trans hEw
      by_cases hlt:i<P.length
      case neg =>
       obtain rfl:i=P.length:=by omega
       have hii : ¬ (P.length:Int)<(P.length:Int):=by omega
       clear hlt
       go_wp2_with fail
       go_ret
       exact ⟨rfl,eY.trans eR⟩
      have hii:(i:Int)<(P.length:Int):=by omega
      have hiv:i<vv.length:=by rw [HVl.out]; exact hlt
      have c0:=eR.cell (HSv.out.cell i _ (List.getElem?_eq_getElem hiv))
      rw [Nat.zero_add] at c0
      have hil:i<L.length:=by rw [HLl.out]; exact hlt
      have hszl:=(HRv.out i hil hiv).ext eR
      have hll:=(htw.out L[i] (List.getElem_mem hil)).1
      obtain ⟨xa,xb,xo,xc,ex,j1,j2,j3⟩:=id hszl
      clear j1 j2 j3
      rw [ex] at c0 hszl
      rw [hll] at c0 hszl
      have Hsz:=Lib.hid hszl
      have Hll:=Lib.hid hll
      have Hbi:=Lib.hid (show tuL P.length M G (unitL P.length i)=L[i] by rw [Hbk.out i hlt,List.getD_eq_getElem?_getD,List.getElem?_eq_getElem hil,Option.getD_some])
      obtain ⟨li,hli⟩ : ∃ li,li=L[i]:=⟨_,rfl⟩
      rw [← hli] at Hsz Hll Hbi
      clear ex hszl hiv hll hil hli
      go_wp2_with (at_make; refine wpList_make_full _ rfl _ _ 30 rfl R.heap.size 3 i0 (.int .i64 0) 1 Tryz.underlying30 hi0 hz0 hz1 .i64 .i64 _ _ P.length rfl rfl (by omega) (by omega) (by rw [hz2]; omega) (by unfold maxLen; omega) (Nat.le_refl _) ?_; intro w1 hown1 hgrow1; have hE9:=ext_grown hgrow1; have hb0:OwnV 3 R.heap.size w1 R.heap.size P.length (is (List.replicate P.length 0)):=row_ownV (zero_row hown1) (by simp); have hcl:=hb0.cell (j:=i) (by simpa using hlt); have hfz:=hb0.frozen i; have HE9:=Lib.hid hE9; have HB0:=Lib.hid hb0; clear hown1 hgrow1 hE9 hb0)
      obtain ⟨hO2,hG⟩:=HB0.out.set i (.int .i64 1)
      rw [← is_set] at hO2
      have hEU:=ext_trans_grown HE9.out hG HB0.out.lt.1
      have HU:=Lib.hid (show OwnV 3 0 (w1.setCell ⟨R.heap.size,i,none⟩ (.int .i64 1)) R.heap.size P.length (is (unitL P.length i)) from OwnV.mono hO2 (Nat.zero_le _))
      clear HE9 HB0 hO2 hG
      generalize w1.setCell ⟨R.heap.size,i,none⟩ (.int .i64 1)=T at *
      generalize R.heap.size=gu at *
      clear hcl hfz
      have eX0:=hE2.trans (hEw.trans hEU)
      replace x0:=hEU.cell x0
      replace x1:=hEU.cell x1
      replace x2:=hEU.cell x2
      replace z0:=hEU.cell z0
      replace z1:=hEU.cell z1
      replace z2:=hEU.cell z2
      replace z3:=hEU.cell z3
      replace c0:=hEU.cell c0
      replace Hsz:=Lib.hid (Hsz.out.ext hEU)
      have hEr:=hEw.trans hEU
      have HRu:=Lib.hid (fun W (hW:Ext T W)=>show RowR W (.slice (some ⟨gu,0,none⟩) P.length P.length) (unitL P.length i) from ⟨_,gu,0,P.length,by rw [unitL_length],by rw [unitL_length]; exact Nat.le_refl _,(HU.out.ext hW).sl⟩)
      clear hEU eR hEw HU
      have d0:Ext T T.drew:=(Ext.refl T).drew
      refine wp_region_held_tail (S:=fun W=>Ext T W) 8 (by kernel_rfl) (by simp) ?_
      intro inv
      generalize T.drew=T1 at *
      refine wpAnyLH_take (i:=0) (v := .agg #[.slice tsp P.length tcp,.slice tsc tlc tcc,.slice tsm tlm tcm,.slice tsg M.length tcg]) rfl (by kernel_rfl) (fun _ _ _ h=>h) (.inl ⟨by rfl,fun W hW=>by have y0:=hW.cell z0; have y1:=hW.cell z1; have y2:=hW.cell z2; have y3:=hW.cell z3; go_simp⟩) d0 inv ?_
      intro inv
      go_simp
      refine wpAnyLH_take (i:=1) (v := .slice (some ⟨gu,0,none⟩) P.length P.length) rfl (by kernel_rfl) (fun _ _ _ h=>h) (.inl ⟨by rfl,fun W hW=>by go_simp⟩) d0 inv ?_
      intro inv
      go_simp
      refine wpAnyLH_take (i:=3) (v := .slice (some ⟨gg,0,none⟩) P.length gc) rfl (by kernel_rfl) (fun _ _ _ h=>h) (.inl ⟨by rfl,fun W hW=>by go_simp⟩) d0 inv ?_
      intro inv
      go_simp
      refine wpAnyLH_take (i:=4) (v := .int .i64 i) rfl (by kernel_rfl) (fun _ _ _ h=>h) (.inl ⟨by rfl,fun W hW=>by go_simp⟩) d0 inv ?_
      intro inv
      go_simp
      refine wpAnyLH_take (i:=5) (v := .pointer (some ⟨gg,i,none⟩)) rfl (by kernel_rfl) (fun _ _ _ h=>h) (.inl ⟨by rfl,fun W hW=>by go_simp⟩) d0 inv ?_
      intro inv
      go_simp
      refine wpAnyLH_take (i:=6) (v := .slice xa P.length xc) rfl (by kernel_rfl) (fun _ _ _ h=>h) (.inl ⟨by rfl,fun W hW=>by have y0:=hW.cell c0; go_simp⟩) d0 inv ?_
      intro inv
      go_simp
      refine wpAnyLH_oneI (i:=2) rfl (by kernel_rfl) inv (fun inv K0 hK0 => ?_)
      go_simp
      refine (Hso.out _ _ _ _ i (eX0.trans d0) (HRu.out _ d0)).mono ?_
      rintro e T2 ⟨⟨gs,rfl,hS⟩,hG⟩
      have d1:=d0.trans hG
      have Hs2:=Lib.hid (show SzR T2 (slv gs P.length P.length) li from by
       have:=hS.val.read
       rw [Hbi.out] at this
       rwa [Hll.out] at this)
      refine hK0 _ _ d1 ?_
      clear hK0 hS hG
      refine wpAnyLH_oneI (i:=7) rfl (by kernel_rfl) inv (fun inv K0 hK0 => ?_)
      go_simp
      have hsm:=Lib.hid (Same24_any Hs2.out (Hsz.out.ext d1) (by rw [Hll.out]; omega))
      simp only [decide_true] at hsm
      refine hsm.out.mono ?_
      rintro e T3 ⟨rfl,hG⟩
      have d3:=d1.trans hG
      refine hK0 _ _ d3 ?_
      clear hK0 hG hsm Hs2
      refine wpAnyLH_end (by kernel_rfl) ?_
      have hEf:=hEr.trans d3
      clear inv d0 d1 d3
      go_wp2_with fail
      go_roundw
      case rel=>exact ⟨i+1,by omega,by go_num,hEf⟩
      case measure=>simp [intOf] <;> omega
end Go.Proofs.YtjnpakablgommaaGreatDoor
