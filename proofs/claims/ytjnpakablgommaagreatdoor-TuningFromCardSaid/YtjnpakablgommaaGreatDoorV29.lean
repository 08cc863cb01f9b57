/- Part 29 of the proof of the claim: contracts of the functions that it reaches, and plain laws; no condition. -/
import Derived.Test.YtjnpakablgommaaGreatDoorV28
import Derived.Test.YtjnpakablgommaaGreatDoorV14
import Derived.Laws.CopyRow
set_option maxRecDepth 100000
namespace Go.Proofs.YtjnpakablgommaaGreatDoor
open Go.RowKit Go.Sort
def RowsA (w:World) (v:Value) (Z:List (List Int)):Prop := ∃ sa gb go cap,v = .slice sa Z.length cap∧Z.length≤cap∧(0<Z.length→sa=some ⟨gb,go,none⟩)∧(∀ i (h:i<Z.length),Z[i].length=4 ∧ ∀ z∈Z[i],-128≤z∧z≤127) ∧ ∀ i (h:i<Z.length) j (_:j<4),w.cell? ⟨gb,go+4*i+j,none⟩=some (.int .i8 (Z[i].getD j 0))
theorem RowsA.ext {w w':World} {v:Value} {Z:List (List Int)} (h:RowsA w v Z) (he:Ext w w'):RowsA w' v Z:=by
 obtain ⟨sa,gb,go,cap,h1,h2,h3,h4,h5⟩:=h
 exact ⟨sa,gb,go,cap,h1,h2,h3,h4,fun i a j b=>he.cell (h5 i a j b)⟩
theorem RowV.slice {B:Nat} {w:World} {v:Value} {r:List Int} (h:RowV B w v r) : ∃ a l k,v = .slice a l k:=by
 rcases h.2 with ⟨rfl,_⟩ | ⟨g,cap,cur,rfl,_⟩
 ·exact ⟨_,_,_,rfl⟩
 ·exact ⟨_,_,_,rfl⟩
theorem row_kept {w w':World} {q g n c:Nat} {r:List Int} (h:RowR w (slv g n c) r) (hG:w.grownBy w' (some q)) (hne:g≠q):RowR w' (slv g n c) r:=by
 obtain ⟨sa,gb,go,cap,he,hc,hS⟩:=h
 injection he with e1 e2 e3
 subst e2 e3
 refine ⟨_,gb,go,c,rfl,hc,fun h0=>(by rw [e1]; exact hS.addr h0),fun i x hx => ?_⟩
 have h0:0<(is r).length:=by have:=(List.getElem?_eq_some_iff.1 hx).1; omega
 have h1:=hS.addr h0
 rw [← e1] at h1
 injection h1 with h1
 injection h1 with h1 h2
 subst h1 h2
 exact grown_frozen_cell hG hne (hS.cell i x hx)
def MakPost (w:World) (b:Int) (e:Ending) (w':World):Prop := ∃ t C M,e = .returned t∧TmR w' t (prL b) C M∧Ext w w'
set_option maxHeartbeats 8000000 in
theorem make18_any {w:World} {b:Int} {rv:Value} {Z:List (List Int)} {vals:Bool} (hb:0≤b∧b≤255) (hR:RowsA w rv Z) (hl:Z.length≤3) (hL:Laid w) :
  Calls Tryz.prog 14 #[.agg #[.int .u8 b,rv,.bool vals]] w (MakPost w b):=by
 have hpr:=Lib.hid (fun W=>primes12_any (w:=W) hb)
 obtain ⟨sa,gb,go,cap,rfl,hcap,hsa,hz4,hcz⟩:=hR
 have hX:=((Ext.refl w).alloc (.cells #[.int .u8 b,.slice sa Z.length cap,.bool vals] 24)).alloc (.cells #[.slice none 0 0,.slice none 0 0,.slice none 0 0] 34)
 have x0:((w.alloc (.cells #[.int .u8 b,.slice sa Z.length cap,.bool vals] 24)).alloc (.cells #[.slice none 0 0,.slice none 0 0,.slice none 0 0] 34)).cell? ⟨w.heap.size,0,none⟩=some (.int .u8 b):=by go_simp
 have x1:((w.alloc (.cells #[.int .u8 b,.slice sa Z.length cap,.bool vals] 24)).alloc (.cells #[.slice none 0 0,.slice none 0 0,.slice none 0 0] 34)).cell? ⟨w.heap.size,1,none⟩=some (.slice sa Z.length cap):=by go_simp
 have x2:((w.alloc (.cells #[.int .u8 b,.slice sa Z.length cap,.bool vals] 24)).alloc (.cells #[.slice none 0 0,.slice none 0 0,.slice none 0 0] 34)).cell? ⟨w.heap.size,2,none⟩=some (.bool vals):=by go_simp
 have Hz4:=Lib.hid hz4
 have Hcz:=Lib.hid hcz
 have Hsa:=Lib.hid hsa
 have HL:=Lib.hid hL
 clear hsa hz4 hcz hL hb
 go_enter Tryz.func14,Tryz.ntmps14
 go_upto_region 1 with fail
 generalize hV:World.alloc (World.alloc w _) _=V at *
 have h2l:w.heap.size+1<V.heap.size:=by rw [← hV]; simp
 have HO:=Lib.hid (show OwnV 34 (w.heap.size+1) V (w.heap.size+1) 3 [.slice none 0 0,.slice none 0 0,.slice none 0 0] by
  have h:=own3 (w.alloc (.cells #[.int .u8 b,.slice sa Z.length cap,.bool vals] 24)) 34 (.slice none 0 0) (.slice none 0 0) (.slice none 0 0)
  rw [show (w.alloc (.cells #[.int .u8 b,.slice sa Z.length cap,.bool vals] 24)).heap.size=w.heap.size+1 by simp,hV] at h
  exact h)
 clear hV
 have hb2w:w.heap.size≤w.heap.size+1:=by omega
 generalize w.heap.size+1=b2 at *
 go_wp2_with fail
 refine (hpr.out _).mono ?_
 rintro e X ⟨g,rfl,hP,hg,hE1⟩
 have HP:=Lib.hid hP
 have HW:=Lib.hid (prL_ok b)
 have x0':=hE1.cell x0
 have x1':=hE1.cell x1
 have x2':=hE1.cell x2
 have e1:=hX.trans hE1
 have h2X:=hE1.size
 have hgb:g≠b2:=by omega
 obtain ⟨n,hn⟩ : ∃ n,n=(prL b).length:=⟨_,rfl⟩
 have hn4:=(prL_ok b).2.2.1
 rw [← hn] at hn4
 have Hn:=Lib.hid hn
 have HPn:=Lib.hid (show RowR X (slv g n n) (prL b) by rw [hn]; exact hP)
 have HO1:=Lib.hid (HO.out.ext hE1)
 rw [← hn]
 clear hP hg x0 x1 x2 hpr HO hn
 go_wp2_with fail
 go_loopw [4,5] (fun out idx wr => ∃ i:Nat,i≤Z.length∧idx = .int .i64 i∧Hid (MatO X.heap.size wr out ((Z.take i).map (ivL n)))∧Ext X wr) (fun _ idx _=>Z.length-(intOf idx).toNat)
 case atStart=>exact ⟨0,by omega,by go_num,Lib.hid (MatO.nil _ _),Ext.refl _⟩
 case round =>
  obtain ⟨i,hi,rfl,HM,hE⟩:=hrel
  generalize wr=Y at *
  have y1:=hE.cell x1'
  by_cases hlt:i<Z.length
  ·have hii:(i:Int)<(Z.length:Int):=by omega
   have hi3:(i:Int)<3:=by omega
   obtain rfl:=Hsa.out (by omega)
   have hcc:=fun j hj=>(e1.trans hE).cell (Hcz.out i hlt j hj)
   obtain ⟨zs,hzs⟩ : ∃ zs,zs=Z[i]:=⟨_,rfl⟩
   obtain ⟨hz4,hzb⟩:=Hz4.out i hlt
   rw [← hzs] at hz4 hzb
   simp only [← hzs] at hcc
   have q0:Y.cell? ⟨gb,go+i*4,none⟩=some (.int .i8 (zs.getD 0 0)):=by have:=hcc 0 (by omega); rwa [show go+4*i+0=go+i*4 by omega] at this
   have q1:Y.cell? ⟨gb,go+i*4+1,none⟩=some (.int .i8 (zs.getD 1 0)):=by have:=hcc 1 (by omega); rwa [show go+4*i+1=go+i*4+1 by omega] at this
   have q2:Y.cell? ⟨gb,go+i*4+2,none⟩=some (.int .i8 (zs.getD 2 0)):=by have:=hcc 2 (by omega); rwa [show go+4*i+2=go+i*4+2 by omega] at this
   have q3:Y.cell? ⟨gb,go+i*4+3,none⟩=some (.int .i8 (zs.getD 3 0)):=by have:=hcc 3 (by omega); rwa [show go+4*i+3=go+i*4+3 by omega] at this
   have HI:=Lib.hid (interval12_any (w:=Y) (cs := #[.int .i8 (zs.getD 0 0),.int .i8 (zs.getD 1 0),.int .i8 (zs.getD 2 0),.int .i8 (zs.getD 3 0)]) (zs:=zs) (HP.out.ext hE) HW.out.2.2.1 ⟨by simp,hz4,fun j hj=>by
    rcases (show j=0∨j=1∨j=2∨j=3 by omega) with rfl | rfl | rfl | rfl <;> rfl,hzb⟩)
   rw [← Hn.out] at HI
   have Hsn:=Lib.hid (show (Z.take (i+1)).map (ivL n)=(Z.take i).map (ivL n)++[ivL n zs] by rw [List.take_succ_eq_append_getElem hlt,List.map_append,hzs]; rfl)
   have Hil:=Lib.hid (show ((Z.take i).map (ivL n)).length=i by simp; omega)
   have hXY:=hE.size
   clear hcc hz4 hzb hzs
   generalize zs.getD 0 0=w0,zs.getD 1 0=w1,zs.getD 2 0=w2,zs.getD 3 0=w3 at *
   go_wp2_with fail
   refine HI.out.mono ?_
   rintro e W ⟨v',rfl,hv',hE2⟩
   have Hv:=Lib.hid (hv'.mono hXY)
   obtain ⟨va,vl,vc,rfl⟩:=RowV.slice hv'
   have HMW:=Lib.hid (HM.out.ext hE2)
   have hEW:=hE.trans hE2
   have hWs:=hEW.size
   clear hv' HI q0 q1 q2 q3
   go_wp2_with (at_builtin; refine app_mat rfl _ _ rfl (B:=X.heap.size) rfl (HMW.out.ext ((Ext.refl _).alloc _)) rfl (b:=W.heap.size) (rv := .slice va vl vc) (r:=ivL n zs) (by go_simp) (Hv.out.ext ((Ext.refl _).alloc _)) (by rw [Hil.out]; omega) (by simp; omega) ?_; intro gg cap2 w8 hO8 hB8 hG8; rw [Hil.out, ← Hsn.out] at hO8; rw [Hil.out])
   have hE8:Ext X w8:=Below.trans (hEW.alloc _) hB8
   have HO8:=Lib.hid hO8
   clear hG8 hB8 hO8
   go_wp2_with fail
   go_roundw
   case rel=>exact ⟨i+1,by omega,by go_num,HO8,hE8⟩
   case measure=>simp [intOf] <;> omega
  ·obtain rfl:i=Z.length:=by omega
   have HF:=Lib.hid (show MatO X.heap.size Y u4 (Z.map (ivL n)) by have:=HM.out; rw [List.take_length] at this; exact this)
   obtain ⟨xa,xl,xk,rfl⟩:=HF.out.slice
   have y2:=hE.cell x2'
   have HB:=Lib.hid (build_any (w:=Y) (vals:=vals) (HP.out.ext hE) HF.out.mat HW.out (by
    intro r hr
    obtain ⟨z,hz,rfl⟩:=List.mem_map.1 hr
    obtain ⟨k,hk,rfl⟩:=List.getElem_of_mem hz
    rw [← Hn.out]; exact ivL_len (Hz4.out k hk).1 hn4) (by simp; omega) (by
    intro r hr
    obtain ⟨z,hz,rfl⟩:=List.mem_map.1 hr
    exact ivL_ent n z) (HL.out.ext (e1.trans hE)))
   rw [← Hn.out] at HB
   clear HM
   go_wp2_with fail
   refine HB.out.mono ?_
   rintro e W ⟨C,M,sc,lc,cc,sm,lm,cm,rfl,hok,hC,hM,hE2⟩
   rw [← Hn.out]
   have eW:=(e1.trans hE).trans hE2
   have eW2:=eW.alloc (.cells #[slv g n n,.slice sc lc cc,.slice sm lm cm] 34)
   have ea:=(Ext.refl W).alloc (.cells #[slv g n n,.slice sc lc cc,.slice sm lm cm] 34)
   have H2:=Lib.hid (((HO1.out.ext hE).ext hE2).ext ea)
   have H6:=own3 W 34 (slv g n n) (.slice sc lc cc) (.slice sm lm cm)
   have HC2:=Lib.hid (hC.ext ea)
   have HM2:=Lib.hid (hM.ext ea)
   have Hok:=Lib.hid hok
   have HPW:=Lib.hid (HPn.out.ext ((hE.trans hE2).trans ea))
   clear y2 HB HF x0' x1' x2' HPn HP y1
   go_upto_region 8 with fail
   generalize hZ:W.alloc (.cells #[slv g n n,.slice sc lc cc,.slice sm lm cm] 34)=U at *
   have k0:=H6.cell (j:=0) (by simp)
   have k1:=H6.cell (j:=1) (by simp)
   have k2:=H6.cell (j:=2) (by simp)
   simp only [List.getElem_cons_zero,List.getElem_cons_succ] at k0 k1 k2
   obtain ⟨Hr6,He6,Hg6⟩:=set3 eW2 (by omega) H2.out (slv g n n) (.slice sc lc cc) (.slice sm lm cm)
   have r0:=Hr6.cell (j:=0) (by simp)
   have r1:=Hr6.cell (j:=1) (by simp)
   have r2:=Hr6.cell (j:=2) (by simp)
   simp only [List.getElem_cons_zero,List.getElem_cons_succ] at r0 r1 r2
   have f0:=H2.out.frozen 0
   have f1:=H2.out.frozen 1
   have f2:=H2.out.frozen 2
   have m0:=H2.out.cell (j:=0) (by simp)
   have m1:=H2.out.cell (j:=1) (by simp)
   have m2:=H2.out.cell (j:=2) (by simp)
   simp only [List.getElem_cons_zero,List.getElem_cons_succ] at m0 m1 m2
   have HC3:=Lib.hid (mat_kept2 HC2.out H2.out (by decide) (by decide) Hg6)
   have HM3:=Lib.hid (mat_kept2 HM2.out H2.out (by decide) (by decide) Hg6)
   have HP3:=Lib.hid (row_kept HPW.out Hg6 hgb)
   have Hres:=Lib.hid (show MakPost w b (.returned (tmv (slv g n n) (.slice sc lc cc) (.slice sm lm cm))) _ from ⟨_,C,M,rfl,⟨Hok.out,_,_,_,_,_,_,_,_,by rw [← Hn.out],by rw [← Hn.out]; exact HP3.out,HC3.out.mat,HM3.out.mat⟩,He6⟩)
   clear hZ Hr6 He6 Hg6 H6
   go_wp2_with fail
   refine bodyPost_ret (v:=tmv (slv g n n) (.slice sc lc cc) (.slice sm lm cm)) (by simp [results,Tryz.results14,go_sem,r0,r1,r2]) rfl Hres.out
structure TmV (w:World) (P:List Int) (C M M':Mx) (sp:Option Addr) (cp:Nat) (sc:Option Addr) (lc cc:Nat) (sm:Option Addr) (lm cm:Nat):Prop where
 ok:TmOK P C M
 hP:RowR w (.slice sp P.length cp) P
 hC:MatR w (.slice sc lc cc) C
 hM:MatR w (.slice sm lm cm) M'
abbrev tmS (P:List Int) (sp:Option Addr) (cp:Nat) (sc:Option Addr) (lc cc:Nat) (sm:Option Addr) (lm cm:Nat):Value:=tmv (.slice sp P.length cp) (.slice sc lc cc) (.slice sm lm cm)
theorem TmV.ext {w w':World} {P:List Int} {C M M':Mx} {sp:Option Addr} {cp:Nat} {sc:Option Addr} {lc cc:Nat} {sm:Option Addr} {lm cm:Nat} (h:TmV w P C M M' sp cp sc lc cc sm lm cm) (he:Ext w w'):TmV w' P C M M' sp cp sc lc cc sm lm cm:=⟨h.ok,h.hP.ext he,h.hC.ext he,h.hM.ext he⟩
theorem TmR.open {w:World} {t:Value} {P:List Int} {C M:Mx} (h:TmR w t P C M) : ∃ sp cp sc lc cc sm lm cm,t=tmS P sp cp sc lc cc sm lm cm∧TmV w P C M M sp cp sc lc cc sm lm cm:=by
 obtain ⟨h1,sp,cp,sc,lc,cc,sm,lm,cm,rfl,h2,h3,h4⟩:=h
 exact ⟨_,_,_,_,_,_,_,_,rfl,h1,h2,h3,h4⟩
def tmE (M M':Mx):Int:=if M=M' then 0 else 14
set_option maxHeartbeats 4000000 in
theorem tCheck_any {w:World} {P:List Int} {C M M':Mx} {sp:Option Addr} {cp:Nat} {sc:Option Addr} {lc cc:Nat} {sm:Option Addr} {lm cm:Nat} (h:TmV w P C M M' sp cp sc lc cc sm lm cm) (hL:Laid w) :
  Calls Tryz.prog 82 #[tmS P sp cp sc lc cc sm lm cm] w fun e w'=>e = .returned (.int .i64 (tmE M M'))∧Ext w w':=by
 obtain ⟨hok,hP,hC,hM'⟩:=h
 have hp4:=hok.p4
 have hp0:=hok.p0
 obtain ⟨psC,hI⟩:=hok.kC.1
 obtain ⟨psM,hIM⟩:=hok.kM.1
 have hl4:=isH_len hI
 have hl4M:=isH_len hIM
 have hck:=Lib.hid (fun W (hW:Ext w W)=>pCheck_ok (hP.ext hW) hp0 (by omega) hok.pr hok.inc)
 have hlc:=Lib.hid (fun W (hW:Ext w W)=>latCheck_ok (hC.ext hW) hI (by omega) (by omega) hok.sC)
 have hsat:=Lib.hid (fun W (hW:Ext w W)=>satur_ok (hC.ext hW) hI hp0 hp4 hok.sC (fun K hK=>by rw [hK.uniq hok.kM]; exact hok.sM) (fun K S hK hS=>by
  rw [hK.uniq hok.kM] at hS
  rw [hS.uniq hok.kC]; exact hok.sC) (hL.ext hW))
 have hann:=Lib.hid (fun W (hW:Ext w W)=>annih_ok (hC.ext hW) hI hp0 hp4 hok.sC (fun K hK=>by rw [hK.uniq hok.kM]; exact hok.sM) (hL.ext hW))
 have heq:=Lib.hid (fun W va (hW:Ext w W) (h:MatR W va C)=>latEqual_any (n:=P.length) h (hC.ext hW) (by omega) (fun r hr=>by rw [hI.rect r hr]; omega))
 rw [decide_eq_true rfl] at heq
 have hsm:=Lib.hid (fun W va (hW:Ext w W) (h:MatR W va M)=>tmpSame_any h (hM'.ext hW) (by omega) (fun r hr=>by rw [hIM.rect r hr]; omega))
 have HkM:=Lib.hid hok.kM
 have HkC:=Lib.hid hok.kC
 have hX:=(Ext.refl w).alloc (.cells #[.slice sp P.length cp,.slice sc lc cc,.slice sm lm cm] 34)
 have x0:(w.alloc (.cells #[.slice sp P.length cp,.slice sc lc cc,.slice sm lm cm] 34)).cell? ⟨w.heap.size,0,none⟩=some (.slice sp P.length cp):=by go_simp
 have x1:(w.alloc (.cells #[.slice sp P.length cp,.slice sc lc cc,.slice sm lm cm] 34)).cell? ⟨w.heap.size,1,none⟩=some (.slice sc lc cc):=by go_simp
 have x2:(w.alloc (.cells #[.slice sp P.length cp,.slice sc lc cc,.slice sm lm cm] 34)).cell? ⟨w.heap.size,2,none⟩=some (.slice sm lm cm):=by go_simp
 clear hok hP hC hM' hI hIM hl4 hl4M hL
 go_enter Tryz.func82,Tryz.ntmps82
 go_wp2_with fail
 generalize w.alloc (.cells #[.slice sp P.length cp,.slice sc lc cc,.slice sm lm cm] 34)=V at *
 refine (hck.out _ hX).mono ?_
 rintro e X ⟨rfl,hE1⟩
 have y0:=hE1.cell x0
 have y1:=hE1.cell x1
 have y2:=hE1.cell x2
 have e1:=hX.trans hE1
 have e1a:=e1.alloc (.cells #[.int .i64 P.length,.slice sc lc cc] 204)
 clear hck x0 x1 x2
 go_wp2_with fail
 refine (hlc.out _ e1a).mono ?_
 rintro e X2 ⟨rfl,hE2⟩
 have e2:=e1a.trans hE2
 have z0:X2.cell? ⟨X.heap.size,0,none⟩=some (.int .i64 P.length):=hE2.cell (by go_simp)
 have z1:X2.cell? ⟨X.heap.size,1,none⟩=some (.slice sc lc cc):=hE2.cell (by go_simp)
 have hbx:X.heap.size<X2.heap.size:=by have:=hE2.size; simp at this; omega
 have y2':=(hE2.cell (((Ext.refl X).alloc (.cells #[.int .i64 P.length,.slice sc lc cc] 204)).cell y2))
 generalize X.heap.size=b4 at *
 clear hlc y0 y1 y2 e1 e1a hE1 hE2
 go_wp2_with fail
 refine (hsat.out _ e2).mono ?_
 rintro e X3 ⟨v2,S,rfl,hm2,⟨K,hK,hS⟩,hE3⟩
 have HS:=Lib.hid (show MatR X3 v2 C by
  rw [hK.uniq HkM.out] at hS
  rw [← hS.uniq HkC.out]; exact hm2.mat)
 obtain ⟨a2,l2,k2,rfl⟩:=hm2.slice
 have z0:=hE3.cell z0
 have z1:=hE3.cell z1
 have y2':=hE3.cell y2'
 have e3:=e2.trans hE3
 have e3a:=e3.alloc (.cells #[.int .i64 P.length,.slice a2 l2 k2] 204)
 have ea3:=(Ext.refl X3).alloc (.cells #[.int .i64 P.length,.slice a2 l2 k2] 204)
 have HS2:=Lib.hid (HS.out.ext ea3)
 have z0a:=ea3.cell z0
 have z1a:=ea3.cell z1
 clear hK hS hm2 hsat hE3
 go_wp2_with fail
 refine (heq.out _ _ e3a HS2.out).mono ?_
 rintro e X4 ⟨rfl,hE4⟩
 have z0:=hE4.cell (ea3.cell z0)
 have z1:=hE4.cell (ea3.cell z1)
 have y2':=hE4.cell (ea3.cell y2')
 have e4:=e3a.trans hE4
 clear heq HS HS2 ea3 e3a hE4 e3
 go_wp2_with fail
 refine (hann.out _ e4).mono ?_
 rintro e X5 ⟨v3,K',rfl,hm3,hK',hE5⟩
 obtain rfl:=hK'.uniq HkM.out
 obtain ⟨a3,l3,k3,rfl⟩:=hm3.slice
 have y2':=hE5.cell y2'
 have e5:=e4.trans hE5
 have e5a:=e5.alloc (.cells #[.int .i64 P.length,.slice a3 l3 k3] 204)
 have ea5:=(Ext.refl X5).alloc (.cells #[.int .i64 P.length,.slice a3 l3 k3] 204)
 have y2':=ea5.cell y2'
 have HM3:=Lib.hid (hm3.mat.ext ea5)
 have hs:=Lib.hid (hsm.out _ _ e5a HM3.out)
 clear hm3 hK' hann hE5 z0 z1 HM3 hsm
 by_cases hMM:K'=M'
 ·rw [decide_eq_true hMM] at hs
  have he:tmE K' M'=0:=by unfold tmE; rw [if_pos hMM]
  have He:=Lib.hid he
  clear he hMM
  go_wp2_with fail
  refine hs.out.mono ?_
  rintro e X6 ⟨rfl,hE6⟩
  go_wp2_with fail
  go_ret
  exact ⟨ret_val (congrArg (Value.int .i64) He.out.symm),e5a.trans hE6⟩
 ·rw [decide_eq_false hMM] at hs
  have he:tmE K' M'=14:=by unfold tmE; rw [if_neg hMM]
  have He:=Lib.hid he
  clear he hMM
  go_wp2_with fail
  refine hs.out.mono ?_
  rintro e X6 ⟨rfl,hE6⟩
  go_wp2_with fail
  go_ret
  exact ⟨ret_val (congrArg (Value.int .i64) He.out.symm),e5a.trans hE6⟩
def bgE (n:Nat) (x:List Int):Int:=if chkRow x=0 then (if x.length=n then 0 else 5) else chkRow x
theorem tmE_same (M:Mx):tmE M M=0:=if_pos rfl
set_option maxHeartbeats 4000000 in
theorem begin1_any {w:World} {P:List Int} {C M:Mx} {sp:Option Addr} {cp:Nat} {sc:Option Addr} {lc cc:Nat} {sm:Option Addr} {lm cm:Nat} {b:Nat} {vx:Value} {x:List Int} (h:TmV w P C M M sp cp sc lc cc sm lm cm) (hb:w.cell? ⟨b,0,none⟩=some vx) (hx:RowR w vx x) (hL:Laid w) :
  Calls Tryz.prog 76 #[tmS P sp cp sc lc cc sm lm cm,.slice (some ⟨b,0,none⟩) 1 1] w fun e w'=>e = .returned (.int .i64 (bgE P.length x))∧Ext w w':=by
 have hck:=Lib.hid (fun W (hW:Ext w W)=>tCheck_any (h.ext hW) (hL.ext hW))
 rw [tmE_same] at hck
 have hrc:=Lib.hid (fun W (hW:Ext w W)=>rowCheck_any (hx.ext hW))
 obtain ⟨sx,gx,ox,cx,rfl,_,_⟩:=hx
 have hX:=(Ext.refl w).alloc (.cells #[.slice sp P.length cp,.slice sc lc cc,.slice sm lm cm] 34)
 have x0:(w.alloc (.cells #[.slice sp P.length cp,.slice sc lc cc,.slice sm lm cm] 34)).cell? ⟨w.heap.size,0,none⟩=some (.slice sp P.length cp):=by go_simp
 have x1:(w.alloc (.cells #[.slice sp P.length cp,.slice sc lc cc,.slice sm lm cm] 34)).cell? ⟨w.heap.size,1,none⟩=some (.slice sc lc cc):=by go_simp
 have x2:(w.alloc (.cells #[.slice sp P.length cp,.slice sc lc cc,.slice sm lm cm] 34)).cell? ⟨w.heap.size,2,none⟩=some (.slice sm lm cm):=by go_simp
 have xb:=hX.cell hb
 obtain ⟨z,hz⟩ : ∃ z,z=chkRow x:=⟨_,rfl⟩
 have hbg:bgE P.length x=if z=0 then (if x.length=P.length then 0 else 5) else z:=by rw [hz]; rfl
 generalize bgE P.length x=q at *
 rw [← hz] at hrc
 generalize x.length=nx at *
 have Hq:=Lib.hid hbg
 clear hz hbg h hL hb
 go_enter Tryz.func76,Tryz.ntmps76
 go_wp2_with fail
 generalize w.alloc (.cells #[.slice sp P.length cp,.slice sc lc cc,.slice sm lm cm] 34)=V at *
 refine (hck.out _ hX).mono ?_
 rintro e X ⟨rfl,hE1⟩
 have y0:=hE1.cell x0
 have yb:=hE1.cell xb
 have e1:=hX.trans hE1
 clear hck x0 x1 x2 xb hX hE1
 generalize P.length=n at *
 go_wp2_with fail
 go_loopw [16] (fun idx wr => ∃ i:Nat,i≤1∧idx = .int .i64 i∧Hid (0<i→z=0∧nx=n)∧Ext X wr) (fun idx _=>1-(intOf idx).toNat)
 case atStart=>exact ⟨0,by omega,by go_num,Lib.hid (fun h=>by omega),Ext.refl _⟩
 case round =>
  obtain ⟨i,hi,rfl,HK,hE⟩:=hrel
  generalize wr=Y at *
  have yb1:=hE.cell yb
  have y01:=hE.cell y0
  rcases (show i=0∨i=1 by omega) with rfl | rfl
  ·have hr:=Lib.hid (hrc.out _ (e1.trans hE))
   clear hrc hi HK
   by_cases hz:z=0
   ·subst hz
    by_cases hn:nx=n
    ·subst hn
     go_wp2_with fail
     refine hr.out.mono ?_
     rintro e W ⟨rfl,hE2⟩
     have y02:=hE2.cell y01
     go_wp2_with fail
     go_roundw
     case rel=>exact ⟨1,by omega,by go_num,Lib.hid (fun _=>by simp),hE.trans hE2⟩
     case measure=>simp [intOf]
    ·have h1 : ¬ ((nx:Int)=(n:Int)):=by omega
     have h2:((nx:Int)==(n:Int))=false:=beq_eq_false_iff_ne.2 h1
     have h3:((nx:Int) != (n:Int))=true:=by simp [bne,h2]
     have H5:=Lib.hid (show (5:Int)=q by rw [Hq.out,if_pos rfl,if_neg hn])
     clear hn
     go_wp2_with fail
     refine hr.out.mono ?_
     rintro e W ⟨rfl,hE2⟩
     have y02:=hE2.cell y01
     have eF:=(e1.trans hE).trans hE2
     go_wp2_with fail
     go_ret
     exact ⟨ret_val (congrArg (Value.int .i64) H5.out),eF⟩
   ·have h2:(z==0)=false:=beq_eq_false_iff_ne.2 hz
    have h3:(z != 0)=true:=by simp [bne,h2]
    have H5:=Lib.hid (show z=q by rw [Hq.out,if_neg hz])
    clear hz
    go_wp2_with fail
    refine hr.out.mono ?_
    rintro e W ⟨rfl,hE2⟩
    have eF:=(e1.trans hE).trans hE2
    go_wp2_with fail
    go_ret
    exact ⟨ret_val (congrArg (Value.int .i64) H5.out),eF⟩
  ·obtain ⟨k1,k2⟩:=HK.out (by omega)
   have H5:=Lib.hid (show (0:Int)=q by rw [Hq.out,if_pos k1,if_pos k2])
   clear k1 k2
   go_wp2_with fail
   go_ret
   exact ⟨ret_val (congrArg (Value.int .i64) H5.out),e1.trans hE⟩
def GnR (w:World) (v:Value) (G:List (List Rat)):Prop := ∃ sa gb go cap vs,v = .slice sa G.length cap∧G.length≤cap∧vs.length=G.length∧Sl w sa gb go vs ∧ ∀ i (h:i<G.length) (h':i<vs.length),SzR w vs[i] G[i]
theorem GnR.ext {w w':World} {v:Value} {G:List (List Rat)} (h:GnR w v G) (he:Ext w w'):GnR w' v G:=by
 obtain ⟨sa,gb,go,cap,vs,e,hc,hl,hs,hr⟩:=h; exact ⟨sa,gb,go,cap,vs,e,hc,hl,hs.ext he,fun i a b=>(hr i a b).ext he⟩
set_option maxHeartbeats 1000000 in
theorem szall_any {w:World} {pa:Option Addr} {np cp:Nat} {v:Value} {G:List (List Rat)} (hpc : ∀ W,Ext w W→Calls Tryz.prog 48 #[.slice pa np cp] W fun e w'=>e = .returned (.int .i64 0)∧Ext W w') (hs:GnR w v G) (hl : ∀ l∈G,l.length=np) (hb : ∀ l∈G,ShQ l) (h1000:np≤1000000) (hg:G.length≤1000000) (hL:Laid w) :
  Calls Tryz.prog 84 #[.slice pa np cp,v] w fun e w'=>e = .returned (.int .i64 0)∧Ext w w':=by
 obtain ⟨sa,gb,go,cap,vs,rfl,hc,hvl,hS,hr⟩:=hs
 have Hr:=Lib.hid hr
 have HS:=Lib.hid hS
 have Hv:=Lib.hid hvl
 have Hb:=Lib.hid hb
 have HL:=Lib.hid hL
 have Hl:=Lib.hid hl
 have Hp:=Lib.hid (hpc w (Ext.refl w))
 obtain ⟨n,hn⟩ : ∃ n,n=G.length:=⟨_,rfl⟩
 rw [← hn] at hc hg ⊢
 have Hn:=Lib.hid hn
 clear hr hS hvl hb hL hl hn hpc
 go_enter Tryz.func84,Tryz.ntmps84
 go_wp2_with fail
 refine Hp.out.mono ?_
 rintro e w0 ⟨rfl,hE0⟩
 go_wp2_with fail
 go_loopw [16] (fun i wr => ∃ j:Nat,j≤n∧i = .int .i64 j∧Ext w wr) (fun i _=>n-(intOf i).toNat)
 case atStart=>exact ⟨0,Nat.zero_le _,by go_num,hE0⟩
 case round =>
  obtain ⟨j,hj,rfl,hE⟩:=hrel
  generalize wr=X at *
  by_cases hlt:j<n
  ·have hjl:j<G.length:=by rw [← Hn.out]; exact hlt
   have hjv:j<vs.length:=by rw [Hv.out]; exact hjl
   obtain rfl:=HS.out.addr (by omega)
   have k0:=HS.out.cell j _ (List.getElem?_eq_getElem hjv)
   have hsz:=Hr.out j hjl hjv
   have hck:=Lib.hid (fun W (hW:Ext w W)=>szcheck_any (pa:=pa) (cp:=cp) (hsz.ext hW) (Hl.out _ (List.getElem_mem hjl)) (Hb.out _ (List.getElem_mem hjl)) h1000 (HL.out.ext hW))
   obtain ⟨sx,gx,ox,cx,ex,q1,q2,q3⟩:=hsz
   clear q1 q2 q3
   rw [ex] at k0 hck
   have x0:=hE.cell k0
   have hji:(j:Int)<(n:Int):=by omega
   generalize G[j].length=m at *
   clear hjl hjv k0 ex
   go_wp2_with fail
   refine (hck.out _ hE).mono ?_
   rintro e w1 ⟨rfl,hE1⟩
   have e1:=hE.trans hE1
   clear hck x0
   go_wp2_with fail
   go_roundw
   case rel=>exact ⟨j+1,by omega,by go_num,e1⟩
   case measure=>simp [intOf] <;> omega
  ·have hje:j=n:=by omega
   have hji : ¬ (j:Int)<(n:Int):=by omega
   clear hlt
   go_wp2_with fail
   go_ret
   exact ⟨rfl,hE⟩
def mzS (x:List Int):Bool:=x.all fun z=>decide (-1000≤z)&&decide (z≤1000)
def mzE (n:Nat) (x:List Int):Int:=if x.length=n then (if mzS x=true then 0 else 4) else 5
theorem mzE_zero {n:Nat} {x:List Int} (h:mzE n x=0):x.length=n ∧ ∀ z∈x,-1000≤z∧z≤1000:=by
 unfold mzE at h
 split at h
 ·rename_i h1
  split at h
  ·rename_i h2
   unfold mzS at h2
   rw [List.all_eq_true] at h2
   exact ⟨h1,fun z hz=>by have:=h2 z hz; simpa using this⟩
  ·cases h
 ·cases h
set_option maxHeartbeats 4000000 in
theorem mcheckAll1_any {w:World} {vp:Value} {P:List Int} {b:Nat} {vx:Value} {x:List Int} (hP:RowR w vp P) (hp0:0<P.length) (hp4:P.length≤4) (hpr : ∀ x∈P,SmP x) (hinc : ∀ i (h:i+1<P.length),P[i]'(by omega)<P[i+1]) (hb:w.cell? ⟨b,0,none⟩=some vx) (hx:RowR w vx x) :
  Calls Tryz.prog 112 #[vp,.slice (some ⟨b,0,none⟩) 1 1] w fun e w'=>e = .returned (.int .i64 (mzE P.length x))∧Ext w w':=by
 have hck:=Lib.hid (pCheck_ok hP hp0 (by omega) hpr hinc)
 obtain ⟨sx,gx,ox,cx,rfl,hxc,hSx⟩:=hx
 obtain ⟨sp,gp,op,cp,rfl,hpc,hSp⟩:=hP
 have HSx:=Lib.hid hSx
 have hE:mzE P.length x=if x.length=P.length then (if mzS x=true then 0 else 4) else 5:=rfl
 have hS4:=fun j (h:j<x.length) (hz : ¬ (-1000≤x[j]∧x[j]≤1000))=>show mzS x=false by
  cases hq:mzS x with
  | false=>rfl
  | true =>
   unfold mzS at hq
   rw [List.all_eq_true] at hq
   have:=hq x[j] (List.getElem_mem h)
   exact absurd (by simpa using this) hz
 have hS0:=fun (h : ∀ j (h:j<x.length),-1000≤x[j]∧x[j]≤1000)=>show mzS x=true by
  unfold mzS
  rw [List.all_eq_true]
  intro z hz
  obtain ⟨j,hj,rfl⟩:=List.getElem_of_mem hz
  have:=h j hj
  simp [this.1,this.2]
 obtain ⟨n,hn⟩ : ∃ n,n=x.length:=⟨_,rfl⟩
 obtain ⟨q,hq⟩ : ∃ q,q=mzE P.length x:=⟨_,rfl⟩
 rw [← hq] at hE ⊢
 rw [← hn] at hb hE
 clear hSx hSp hpr hinc hp0 hpc hq
 generalize P.length=p at *
 have Hn:=Lib.hid hn
 have HE:=Lib.hid hE
 have HS4:=Lib.hid hS4
 have HS0:=Lib.hid hS0
 clear hn hE hS4 hS0
 go_enter Tryz.func112,Tryz.ntmps112
 go_wp2_with fail
 refine hck.out.mono ?_
 rintro e X ⟨rfl,hE1⟩
 have yb:=hE1.cell hb
 clear hck hb
 by_cases hnp:n=p
 ·subst hnp
  have HE:=Lib.hid (show q=if mzS x=true then 0 else 4 by rw [HE.out,if_pos rfl])
  go_wp2_with fail
  go_loopw [4,17] (fun rv idx wr => ∃ i:Nat,i≤1∧idx = .int .i64 i∧rv = .int .i64 0∧Hid (0<i→q=0)∧Ext X wr) (fun _ idx _=>1-(intOf idx).toNat)
  case atStart=>exact ⟨0,by omega,by go_num,rfl,Lib.hid (fun h=>by omega),Ext.refl _⟩
  case round =>
   obtain ⟨i,hi,rfl,rfl,H0,hE⟩:=hrel
   generalize wr=Y at *
   have yb1:=hE.cell yb
   rcases (show i=0∨i=1 by omega) with rfl | rfl
   ·go_wp2_with fail
    go_loopw [4,28] (fun rv idx wr => ∃ j:Nat,j≤n∧idx = .int .i64 j∧rv = .int .i64 0∧Hid (∀ t (h:t<x.length),t<j → -1000≤x[t]∧x[t]≤1000)∧Ext Y wr) (fun _ idx _=>n-(intOf idx).toNat)
    case atStart=>exact ⟨0,by omega,by go_num,rfl,Lib.hid (fun t _ h=>by omega),Ext.refl _⟩
    case round =>
     obtain ⟨j,hj,rfl,rfl,HA,hE2⟩:=hrel
     generalize wr=Z at *
     by_cases hjl:j<n
     ·have hji:(j:Int)<(n:Int):=by omega
      have hjx:j<x.length:=by rw [← Hn.out]; exact hjl
      have Hbad:=Lib.hid (fun h=>show q=4 by rw [HE.out,HS4.out j hjx h]; rfl)
      have Hok:=Lib.hid (fun (h : -1000≤x[j]∧x[j]≤1000) t (ht:t<x.length) (htj:t<j+1)=>show -1000≤x[t]∧x[t]≤1000 by
       by_cases e:t=j
       ·subst e; exact h
       ·exact HA.out t ht (by omega))
      obtain ⟨z,hz⟩ : ∃ z,z=x[j]:=⟨_,rfl⟩
      have hcz:=((hE1.trans hE).trans hE2).cell (HSx.out.cell j (.int .i64 z) (by rw [hz]; exact is_get hjx))
      obtain rfl:=HSx.out.addr (by simp; omega)
      rw [← hz] at Hbad Hok
      have eF:=(hE1.trans hE).trans hE2
      clear hz HA
      by_cases hz1:(1000:Int)<z
      ·have H4:=Lib.hid (Hbad.out (by omega))
       clear Hbad Hok
       go_wp2_with fail
       go_ret
       exact ⟨ret_val (congrArg (Value.int .i64) H4.out.symm),eF⟩
      ·by_cases hz2:z<(-1000:Int)
       ·have H4:=Lib.hid (Hbad.out (by omega))
        clear Hbad Hok
        go_wp2_with fail
        go_ret
        exact ⟨ret_val (congrArg (Value.int .i64) H4.out.symm),eF⟩
       ·have HA:=Lib.hid (Hok.out (by omega))
        clear Hbad Hok
        go_wp2_with fail
        go_roundw
        case rel=>exact ⟨j+1,by omega,by go_num,rfl,HA,hE2⟩
        case measure=>simp [intOf] <;> omega
     ·obtain rfl:j=n:=by omega
      have H0:=Lib.hid (show q=0 by rw [HE.out,HS0.out (fun t ht=>HA.out t ht (by rw [Hn.out]; exact ht))]; rfl)
      clear HA
      go_wp2_with fail
      go_roundw
      case rel=>exact ⟨1,by omega,by go_num,rfl,Lib.hid (fun _=>H0.out),hE.trans hE2⟩
      case measure=>simp [intOf] <;> omega
   ·have H0:=Lib.hid (H0.out (by omega))
    go_wp2_with fail
    go_ret
    exact ⟨ret_val (congrArg (Value.int .i64) H0.out.symm),hE1.trans hE⟩
 ·have HE:=Lib.hid (show q=5 by rw [HE.out,if_neg hnp])
  have hn1 : ¬ (n:Int)=(p:Int):=by omega
  have hn2:((n:Int)==(p:Int))=false:=beq_eq_false_iff_ne.2 hn1
  have hn3:((n:Int) != (p:Int))=true:=by simp [bne,hn2]
  go_wp2_with fail
  go_loopw [4,17] (fun rv idx wr=>idx = .int .i64 0∧rv = .int .i64 0∧X=wr) (fun _ _ _=>0)
  case atStart=>exact ⟨by go_num,rfl,rfl⟩
  case round =>
   obtain ⟨rfl,rfl,hwr⟩:=hrel
   subst hwr
   go_wp2_with fail
   go_ret
   exact ⟨ret_val (congrArg (Value.int .i64) HE.out.symm),hE1⟩
theorem mcheck_any {w:World} {vp:Value} {P:List Int} {sx:Option Addr} {n cx:Nat} {x:List Int} (hP:RowR w vp P) (hp0:0<P.length) (hp4:P.length≤4) (hpr : ∀ x∈P,SmP x) (hinc : ∀ i (h:i+1<P.length),P[i]'(by omega)<P[i+1]) (hx:RowR w (.slice sx n cx) x) :
  Calls Tryz.prog 54 #[vp,.slice sx n cx] w fun e w'=>e = .returned (.int .i64 (mzE P.length x))∧Ext w w':=by
 have hX:=(Ext.refl w).alloc (.cells #[.slice sx n cx] 30)
 have xb:(w.alloc (.cells #[.slice sx n cx] 30)).cell? ⟨w.heap.size,0,none⟩=some (.slice sx n cx):=by go_simp
 have hck:=Lib.hid (mcheckAll1_any (hP.ext hX) hp0 hp4 hpr hinc xb (hx.ext hX))
 obtain ⟨sp,gp,op,cp,rfl,hpc,hSp⟩:=hP
 generalize mzE P.length x=q at *
 clear hSp hx hpr hinc hpc
 go_enter Tryz.func54,Tryz.ntmps54
 go_wp2_with fail
 refine hck.out.mono ?_
 rintro e X ⟨rfl,hE1⟩
 go_wp2_with fail
 go_ret
 exact ⟨rfl,hX.trans hE1⟩
structure TuV (w:World) (P:List Int) (C M:Mx) (G:List (List Rat)) (sp:Option Addr) (cp:Nat) (sc:Option Addr) (lc cc:Nat) (sm:Option Addr) (lm cm:Nat) (sg:Option Addr) (lg cg:Nat):Prop where
 tm:TmV w P C M M sp cp sc lc cc sm lm cm
 gn:GnR w (.slice sg lg cg) G
 ln:G.length=M.length
 cl : ∀ l∈G,l.length=P.length
 sh : ∀ l∈G,ShQ l
abbrev tuS (P:List Int) (sp:Option Addr) (cp:Nat) (sc:Option Addr) (lc cc:Nat) (sm:Option Addr) (lm cm:Nat) (sg:Option Addr) (lg cg:Nat):Value := .agg #[.slice sp P.length cp,.slice sc lc cc,.slice sm lm cm,.slice sg lg cg]
theorem TuV.ext {w:World} {P:List Int} {C M:Mx} {G:List (List Rat)} {sp:Option Addr} {cp:Nat} {sc:Option Addr} {lc cc:Nat} {sm:Option Addr} {lm cm:Nat} {sg:Option Addr} {lg cg:Nat} {w':World} (h:TuV w P C M G sp cp sc lc cc sm lm cm sg lg cg) (he:Ext w w'):TuV w' P C M G sp cp sc lc cc sm lm cm sg lg cg:=⟨h.tm.ext he,h.gn.ext he,h.ln,h.cl,h.sh⟩
def TuR (w:World) (t:Value) (P:List Int) (C M:Mx) (G:List (List Rat)):Prop := ∃ sp cp sc lc cc sm lm cm sg lg cg,t=tuS P sp cp sc lc cc sm lm cm sg lg cg∧TuV w P C M G sp cp sc lc cc sm lm cm sg lg cg
theorem TuR.ext {w w':World} {t:Value} {P:List Int} {C M:Mx} {G:List (List Rat)} (h:TuR w t P C M G) (he:Ext w w'):TuR w' t P C M G:=by
 obtain ⟨sp,cp,sc,lc,cc,sm,lm,cm,sg,lg,cg,e,h⟩:=h
 exact ⟨sp,cp,sc,lc,cc,sm,lm,cm,sg,lg,cg,e,h.ext he⟩
theorem MatR.len {w:World} {s:Option Addr} {l c:Nat} {M:Mx} (h:MatR w (.slice s l c) M):l=M.length:=by
 obtain ⟨sa,gb,go,cap,vs,e,_⟩:=h
 injection e with e1 e2 e3
theorem GnR.len {w:World} {s:Option Addr} {l c:Nat} {G:List (List Rat)} (h:GnR w (.slice s l c) G):l=G.length:=by
 obtain ⟨sa,gb,go,cap,vs,e,_⟩:=h
 injection e with e1 e2 e3
theorem TuV.lgl {w:World} {P:List Int} {C M:Mx} {G:List (List Rat)} {sp:Option Addr} {cp:Nat} {sc:Option Addr} {lc cc:Nat} {sm:Option Addr} {lm cm:Nat} {sg:Option Addr} {lg cg:Nat} (h:TuV w P C M G sp cp sc lc cc sm lm cm sg lg cg):lg=lm:=by
 rw [h.gn.len,h.tm.hM.len,h.ln]
theorem TmV.m4 {w:World} {P:List Int} {C M M':Mx} {sp:Option Addr} {cp:Nat} {sc:Option Addr} {lc cc:Nat} {sm:Option Addr} {lm cm:Nat} (h:TmV w P C M M' sp cp sc lc cc sm lm cm):M.length≤4:=by
 obtain ⟨psM,hIM⟩:=h.ok.kM.1
 have:=isH_len hIM
 have:=h.ok.p4
 omega
theorem TmV.pchk {w:World} {P:List Int} {C M M':Mx} {sp:Option Addr} {cp:Nat} {sc:Option Addr} {lc cc:Nat} {sm:Option Addr} {lm cm:Nat} (h:TmV w P C M M' sp cp sc lc cc sm lm cm) : ∀ W,Ext w W→Calls Tryz.prog 48 #[.slice sp P.length cp] W fun e w'=>e = .returned (.int .i64 0)∧Ext W w' :=
 fun _ hW=>pCheck_ok (h.hP.ext hW) h.ok.p0 (by have:=h.ok.p4; omega) h.ok.pr h.ok.inc
theorem TmV.mchk {w:World} {P:List Int} {C M M':Mx} {sp:Option Addr} {cp:Nat} {sc:Option Addr} {lc cc:Nat} {sm:Option Addr} {lm cm:Nat} {sx:Option Addr} {n cx:Nat} {x:List Int} (h:TmV w P C M M' sp cp sc lc cc sm lm cm) (hx:RowR w (.slice sx n cx) x) : ∀ W,Ext w W→Calls Tryz.prog 54 #[.slice sp P.length cp,.slice sx n cx] W fun e w'=>e = .returned (.int .i64 (mzE P.length x))∧Ext W w' :=
 fun _ hW=>mcheck_any (h.hP.ext hW) h.ok.p0 h.ok.p4 h.ok.pr h.ok.inc (hx.ext hW)
set_option maxHeartbeats 2000000 in
theorem tuCheck_any {w:World} {P:List Int} {C M:Mx} {G:List (List Rat)} {sp:Option Addr} {cp:Nat} {sc:Option Addr} {lc cc:Nat} {sm:Option Addr} {lm cm:Nat} {sg:Option Addr} {lg cg:Nat} (h:TuV w P C M G sp cp sc lc cc sm lm cm sg lg cg) (hL:Laid w) :
  Calls Tryz.prog 28 #[tuS P sp cp sc lc cc sm lm cm sg lg cg] w fun e w'=>e = .returned (.int .i64 0)∧Ext w w':=by
 have hlg:=h.lgl
 obtain ⟨hT,hG,hln,hcl,hsh⟩:=h
 have hm4:=hT.m4
 have hp4:=hT.ok.p4
 have hck:=Lib.hid (fun W (hW:Ext w W)=>tCheck_any (hT.ext hW) (hL.ext hW))
 rw [tmE_same] at hck
 have hpc:=hT.pchk
 have hal:=Lib.hid (fun W (hW:Ext w W)=>szall_any (pa:=sp) (cp:=cp) (fun W2 h2=>hpc W2 (hW.trans h2)) (hG.ext hW) hcl hsh (by omega) (by omega) (hL.ext hW))
 have hX:=(Ext.refl w).alloc (.cells #[.slice sp P.length cp,.slice sc lc cc,.slice sm lm cm,.slice sg lg cg] 67)
 have x0:(w.alloc (.cells #[.slice sp P.length cp,.slice sc lc cc,.slice sm lm cm,.slice sg lg cg] 67)).cell? ⟨w.heap.size,0,none⟩=some (.slice sp P.length cp):=by go_simp
 have x1:(w.alloc (.cells #[.slice sp P.length cp,.slice sc lc cc,.slice sm lm cm,.slice sg lg cg] 67)).cell? ⟨w.heap.size,1,none⟩=some (.slice sc lc cc):=by go_simp
 have x2:(w.alloc (.cells #[.slice sp P.length cp,.slice sc lc cc,.slice sm lm cm,.slice sg lg cg] 67)).cell? ⟨w.heap.size,2,none⟩=some (.slice sm lm cm):=by go_simp
 have x3:(w.alloc (.cells #[.slice sp P.length cp,.slice sc lc cc,.slice sm lm cm,.slice sg lg cg] 67)).cell? ⟨w.heap.size,3,none⟩=some (.slice sg lg cg):=by go_simp
 subst hlg
 clear hT hG hln hcl hsh hm4 hp4 hpc hL
 go_enter Tryz.func28,Tryz.ntmps28
 go_wp2_with fail
 refine (hck.out _ hX).mono ?_
 rintro e X ⟨rfl,hE1⟩
 have y0:=hE1.cell x0
 have y2:=hE1.cell x2
 have y3:=hE1.cell x3
 have e1:=hX.trans hE1
 clear hck x0 x1 x2 x3 hX hE1
 go_wp2_with fail
 refine (hal.out _ e1).mono ?_
 rintro e Y ⟨rfl,hE2⟩
 go_wp2_with fail
 go_ret
 exact ⟨rfl,e1.trans hE2⟩
end Go.Proofs.YtjnpakablgommaaGreatDoor
namespace Go.Proofs.YtjnpakablgommaaGreatDoor
theorem run_copy_rowK {P:Program} (w:World) (dT sT ty elem:TypeId) (g o dLen dCap K m:Nat) (a:Addr) (sLen sCap:Nat) (cur:Array Value) (t:TypeId) (cs:List Value)
  (hu:P.underlying dT=some (.slice elem)) (hs:(P.info? elem).map (·.size)=some K)
  (hg:w.heap[g]? = some (.cells cur t (0,0))) (hm:m=Nat.min sLen dLen) (hn:cs.length=m*K)
  (hsrc : ∀ j v,cs[j]? = some v→w.cell? (a.add j)=some v) (hfit:o+cs.length≤cur.size) (h1 : ∀ v∈cs,v.oneCell'=true) :
  (Builtin.copy_ #[dT,sT] ty #[.slice (some ⟨g,o,none⟩) dLen dCap,.slice (some a) sLen sCap]).run P w =
   .ok (goInt m) (w.setRow g (cur.toList.take o++cs++cur.toList.drop (o+cs.length)).toArray):=by
 have hl:=run_loadCells_list (P:=P) w a cs hsrc
 have hst:=run_storeCells_at P g o t cs 0 cur w hg (by simpa using hfit) h1
 cases hq:P.info? elem with
 | none=>simp [hq] at hs
 | some i =>
  have hi:i.size=K:=by simpa [hq] using hs
  simp [Builtin.copy_,run_underlying hu,Builtin.lenOf,Builtin.firstCells,sizeOf,typeInfo,hq,hi, ← hm, ← hn,hl,hst]
end Go.Proofs.YtjnpakablgommaaGreatDoor
