/- Part 11, beside the shared parts, of the proof of the claim: contracts and plain laws; no condition. -/
import Derived.Test.YtjnpakablgommaaGreatDoorX10
import Derived.BigQuiet
set_option maxRecDepth 100000
namespace Go.Proofs.YtjnpakablgommaaGreatDoor
open Go.RowKit Go.Sort
def emQ:Value×Value:=(.string ⟨#[]⟩,.string ⟨#[]⟩)
def c24 (L:List (List Rat)) (fs:List Rat) (np c:Nat) (o:Value×Value):List (Value×Value):=(List.range np).map fun t=>if t<c then qv (qR (sumR (cmbF L fs t) L.length)) else if t=c then o else emQ
@[simp] theorem c24_length (L:List (List Rat)) (fs:List Rat) (np c:Nat) (o:Value×Value):(c24 L fs np c o).length=np:=by simp [c24]
theorem c24_get {L:List (List Rat)} {fs:List Rat} {np c t:Nat} {o:Value×Value} (h:t<(c24 L fs np c o).length):(c24 L fs np c o)[t]=if t<c then qv (qR (sumR (cmbF L fs t) L.length)) else if t=c then o else emQ:=by simp [c24]
theorem c24_at {L:List (List Rat)} {fs:List Rat} {np c:Nat} {o:Value×Value} (h:c<np):(c24 L fs np c o)[c]? = some o:=by
 rw [List.getElem?_eq_getElem (by simpa using h),c24_get,if_neg (by omega),if_pos rfl]
theorem c24_set (L:List (List Rat)) (fs:List Rat) (np c:Nat) (o o':Value×Value):(c24 L fs np c o).set c o'=c24 L fs np c o':=by
 refine List.ext_getElem (by simp) fun t h1 h2 => ?_
 rw [List.getElem_set]
 by_cases e:c=t
 ·subst e
  rw [if_pos rfl,c24_get,if_neg (by omega),if_pos rfl]
 ·rw [if_neg e,c24_get,c24_get,if_neg (show ¬ t=c by omega),if_neg (show ¬ t=c by omega)]
theorem c24_next (L:List (List Rat)) (fs:List Rat) (np c:Nat):c24 L fs np c (qv (qR (sumR (cmbF L fs c) L.length)))=c24 L fs np (c+1) emQ:=by
 refine List.ext_getElem (by simp) fun t h1 h2 => ?_
 rw [c24_get,c24_get]
 by_cases h:t<c
 ·rw [if_pos h,if_pos (by omega)]
 ·rw [if_neg h]
  by_cases e:t=c
  ·subst e; rw [if_pos rfl,if_pos (by omega)]
  ·rw [if_neg e,if_neg (by omega)]
   split <;> rfl
theorem c24_start (L:List (List Rat)) (fs:List Rat) (np:Nat):c24 L fs np 0 emQ=List.replicate np emQ:=by
 refine List.ext_getElem (by simp) fun t h1 h2 => ?_
 rw [c24_get,if_neg (by omega),List.getElem_replicate]
 split <;> rfl
theorem c24_end (L:List (List Rat)) (fs:List Rat) (np:Nat):c24 L fs np np emQ=(cmbQ L fs np).map fun r=>qv (qR r):=by
 refine List.ext_getElem (by simp) fun t h1 h2 => ?_
 have:t<np:=by simpa using h1
 rw [c24_get,if_pos this,List.getElem_map,cmbQ_get]
theorem FrV.own {B g:Nat} {w:World} {l:List Rat} (h:FrV B w g (l.map fun r=>qv (qR r))):SzO B w g l:=by
 unfold FrV at h
 rw [List.length_map] at h; exact h
theorem FrV.stepE {B g i:Nat} {w W:World} {l:List (Value×Value)} (hE:Ext w W) (hg:w.heap.size≤g) (h:FrV B W g l) {p:Value×Value} (hi:l[i]? = some p) (x y:Value) :
  W.cell? ⟨g,i*2,none⟩=some p.1∧W.cell? ⟨g,i*2+1,none⟩=some p.2∧W.frozen? ⟨g,i*2,none⟩=false∧W.frozen? ⟨g,i*2+1,none⟩=false ∧
   Hid (FrV B ((W.setCell ⟨g,i*2,none⟩ x).setCell ⟨g,i*2+1,none⟩ y) g (l.set i (x,y))) ∧
   Hid (Ext w ((W.setCell ⟨g,i*2,none⟩ x).setCell ⟨g,i*2+1,none⟩ y)):=by
 obtain ⟨c0,c1⟩:=h.cells hi
 obtain ⟨h1,g1,f0,f1⟩:=h.set i (x,y)
 exact ⟨c0,c1,f0,f1,Lib.hid h1,Lib.hid (ext_trans_grown hE g1 hg)⟩
set_option maxHeartbeats 4000000 in
theorem combine24_any {w:World} {np:Nat} {v fv:Value} {L:List (List Rat)} {fs:List Rat} (hG:GnR w v L) (hf:SzR w fv fs) (hc : ∀ l∈L,l.length=np) (hfl:L.length≤fs.length) (hE : ∀ l∈L,∀ r∈l,NdQ 1000 r) (hF : ∀ r∈fs,NdQ 1000 r) (hn:np≤1000) (hk:L.length≤1000) (hL:Laid w) :
  Calls Tryz.prog 41 #[v,fv,.int .i64 np] w fun e w'=>(∃ g,e = .returned (slv g np np)∧SzO w.heap.size w' g (cmbQ L fs np))∧Ext w w':=by
 obtain ⟨i0,hi,hz0,hz1,hz2⟩:=info_parts Tryz.infoRat
 obtain ⟨sa,gb,go,cap,vs,rfl,hcap,hvl,hS,hr⟩:=hG
 obtain ⟨fa,fb,fo,fcap,rfl,hfc,hfa,hfr⟩:=hf
 have HS:=Lib.hid hS
 have Hr:=Lib.hid hr
 have Hv:=Lib.hid hvl
 have Hc:=Lib.hid hc
 have Hfa:=Lib.hid hfa
 have Hfr:=Lib.hid hfr
 have HL:=Lib.hid hL
 have Hnd:=Lib.hid (fun c k=>cmbF_nd (c:=c) (k:=k) hE hF (by omega) (by omega))
 have Hsum:=Lib.hid (fun c k (h:k≤1000)=>(sumR_nd k (fun t _=>cmbF_nd (c:=c) (k:=t) hE hF (by omega) (by omega))).smQ (by have:k*(1000+1000+1)≤1000*(1000+1000+1):=Nat.mul_le_mul_right _ h; omega))
 have Hss:=Lib.hid (fun k i (h:k<L.length) (h2:i<L[k].length) s (hs:s=L[k][i])=>show SmQ s by rw [hs]; exact (hE _ (List.getElem_mem h) _ (List.getElem_mem h2)).smQ (by omega))
 have Hpp:=Lib.hid (fun k (h:k<fs.length) s (hs:fs[k]=s)=>show SmQ s by rw [← hs]; exact (hF _ (List.getElem_mem h)).smQ (by omega))
 have hw0:=Lib.hid (fun W (hW:Ext w W)=>whole24_any (n:=0) (by omega) (hL.ext hW))
 rw [show (((0:Int):Rat))=(0:Rat) from rfl] at hw0
 obtain ⟨m,hm⟩ : ∃ m,m=L.length:=⟨_,rfl⟩
 obtain ⟨q,hq⟩ : ∃ q,q=fs.length:=⟨_,rfl⟩
 rw [← hm] at hcap hfl hk ⊢
 rw [← hq] at hfc hfl ⊢
 have Hm:=Lib.hid hm
 have Hq:=Lib.hid hq
 clear hS hr hvl hc hfa hfr hL hE hF hm hq
 go_enter Tryz.func41,Tryz.ntmps41
 go_wp2_with (at_make; refine wpList_make_full _ rfl _ _ 60 rfl w.heap.size 81 i0 (.agg #[.string ⟨#[]⟩,.string ⟨#[]⟩]) 2 Tryz.underlying60 hi hz0 hz1 .i64 .i64 _ _ np rfl rfl (by omega) (by omega) (by rw [hz2]; omega) (by unfold maxLen; omega) (Nat.le_refl _) ?_; intro w0 hown1 hgrow1)
 have e0:=ext_grown hgrow1
 have HO:=Lib.hid (show FrV w.heap.size w0 w.heap.size (c24 L fs np 0 emQ) by
  rw [c24_start]; exact frv_made hown1 (by omega))
 clear hgrow1 hown1 hi hz0 hz1 hz2
 obtain ⟨g,hg⟩ : ∃ g,g=w.heap.size:=⟨_,rfl⟩
 have Hgw:=Lib.hid (show w.heap.size≤g by omega)
 rw [← hg] at HO ⊢
 have Hg:=Lib.hid hg
 clear hg
 go_loopw [8] (fun cv wr => ∃ c:Nat,c≤np∧cv = .int .i64 c∧Hid (FrV g wr g (c24 L fs np c emQ))∧Ext w wr) (fun cv _=>np-(intOf cv).toNat)
 case atStart=>exact ⟨0,by omega,by go_num,HO,e0⟩
 case round =>
  obtain ⟨c,hc',rfl,HO,hE⟩:=hrel
  generalize wr=Y at *
  by_cases hlt:c<np
  ·have hci:(c:Int)<(np:Int):=by omega
   have hw1:=Lib.hid (hw0.out _ hE)
   have Hset:=Lib.hid (c24_set L fs np c emQ (qv (qR 0)))
   have Hat:=Lib.hid (c24_at (L:=L) (fs:=fs) (o:=emQ) hlt)
   have Hlt:=Lib.hid hlt
   clear hlt
   go_wp2_with fail
   refine hw1.out.mono ?_
   rintro e Y1 ⟨rfl,hE1⟩
   have e1:=hE.trans hE1
   obtain ⟨z0,z1,f0,f1,HO1,hE2⟩:=FrV.stepE e1 Hgw.out (HO.out.ext hE1) Hat.out (I 0) (I 1)
   rw [show ((I 0,I 1):Value×Value)=qv (qR 0) from rfl,Hset.out] at HO1
   unfold emQ at z0 z1
   clear hw1 HO Hat Hset
   go_wp2_with fail
   generalize ((Y1.setCell ⟨g,c*2,none⟩ (I 0)).setCell ⟨g,c*2+1,none⟩ (I 1))=Y2 at *
   clear z0 z1 f0 f1 hE1 e1 hE
   go_loopw [9] (fun iv wr => ∃ i:Nat,i≤m∧iv = .int .i64 i∧Hid (FrV g wr g (c24 L fs np c (qv (qR (sumR (cmbF L fs c) i)))))∧Ext w wr) (fun iv _=>m-(intOf iv).toNat)
   case atStart=>exact ⟨0,by omega,by go_num,Lib.hid (show FrV g Y2 g (c24 L fs np c (qv (qR (sumR (cmbF L fs c) 0)))) from HO1.out),hE2.out⟩
   case round =>
    obtain ⟨i,hi,rfl,HO,eX⟩:=hrel
    generalize wr=X at *
    by_cases hli:i<m
    ·have hii:(i:Int)<(m:Int):=by omega
     have hkL:i<L.length:=by rw [← Hm.out]; exact hli
     have hkv:i<vs.length:=by rw [Hv.out]; exact hkL
     obtain rfl:=HS.out.addr (by omega)
     have k0:=HS.out.cell i _ (List.getElem?_eq_getElem hkv)
     have hsz:=Hr.out i hkL hkv
     have hln:=Hc.out _ (List.getElem_mem hkL)
     have hLk:L.getD i []=L[i]:=by rw [List.getD_eq_getElem?_getD,List.getElem?_eq_getElem hkL]; rfl
     obtain ⟨xa,xb,xo,xc,ex,q1,q2,q3⟩:=hsz
     rw [ex] at k0
     rw [hln] at k0 q1 q2
     have hcn:c<np:=Hlt.out
     obtain rfl:=q2 (by omega)
     have hkf:i<q:=by omega
     have hfk:i<fs.length:=by rw [← Hq.out]; exact hkf
     obtain rfl:=Hfa.out (by omega)
     obtain ⟨f0,f1⟩:=Hfr.out i hfk
     have hfD:fs.getD i 0=fs[i]:=by rw [List.getD_eq_getElem?_getD,List.getElem?_eq_getElem hfk]; rfl
     obtain ⟨p,hp⟩ : ∃ p,p=fs[i]:=⟨_,rfl⟩
     rw [← hp] at f0 f1 hfD
     obtain ⟨s0,s1⟩:=q3 c (by rw [hln]; exact hcn)
     obtain ⟨s,hs⟩ : ∃ s,s=L[i][c]'(by rw [hln]; exact hcn):=⟨_,rfl⟩
     rw [← hs] at s0 s1
     have hFk:cmbF L fs c i=s*p:=by
      unfold cmbF
      rw [hLk,hfD,List.getD_eq_getElem?_getD,List.getElem?_eq_getElem (by rw [hln]; exact hcn),hs]; rfl
     have hsN:=Hnd.out c i
     rw [hFk] at hsN
     have hsm:SmQ s:=Hss.out i c hkL (by rw [hln]; exact hcn) s hs
     have hpm:SmQ p:=Hpp.out i hfk p hp.symm
     obtain ⟨t,ht⟩ : ∃ t,t=sumR (cmbF L fs c) i:=⟨_,rfl⟩
     have htm:=Hsum.out c i (by omega)
     rw [← ht] at htm HO
     have Hat:=Lib.hid (c24_at (L:=L) (fs:=fs) (o:=qv (qR t)) hcn)
     obtain ⟨t0',t1'⟩:=HO.out.cells Hat.out
     have t0:X.cell? ⟨g,c*2,none⟩=some (I t.num):=t0'
     have t1:X.cell? ⟨g,c*2+1,none⟩=some (I t.den):=t1'
     clear t0' t1'
     have hst:(c24 L fs np c (qv (qR t))).set c (qv (qR (t+s*p)))=c24 L fs np c (qv (qR (sumR (cmbF L fs c) (i+1)))):=by
      rw [c24_set,sumR,hFk,ht]
     have Hst:=Lib.hid hst
     have hmu:=Lib.hid (fun W (hW:Ext X W)=>ratMul_any (a:=s) (b:=p) hsm hpm (HL.out.ext (eX.trans hW)))
     have had:=Lib.hid (fun W (hW:Ext X W)=>ratAdd_any (a:=t) (b:=s*p) htm (hsN.smQ (by omega)) (HL.out.ext (eX.trans hW)))
     replace k0:=eX.cell k0
     replace s0:=eX.cell s0
     replace s1:=eX.cell s1
     have p0:=eX.cell f0
     have p1:=eX.cell f1
     have hkfI:(i:Int)<(q:Int):=by omega
     have hcnI:(c:Int)<(np:Int):=by omega
     clear hst htm hsN hsm hpm hFk hs ht hli hp hfD hLk hln q2 q3 ex f0 f1 hkv hcn
     go_wp2_with fail
     have d0:Ext X X.drew:=(Ext.refl X).drew
     refine wp_region_held_tail (S:=fun W=>Ext X W) 19 (by kernel_rfl) (by simp) ?_
     intro inv
     generalize X.drew=X1 at *
     refine wpAnyLH_take (i:=0) (v:=slv g np np) rfl (by kernel_rfl) (fun _ _ _ h=>h) (.inl ⟨by rfl,fun W hW=>by go_simp⟩) d0 inv ?_
     intro inv
     go_simp
     refine wpAnyLH_take (i:=1) (v := .int .i64 c) rfl (by kernel_rfl) (fun _ _ _ h=>h) (.inl ⟨by rfl,fun W hW=>by go_simp⟩) d0 inv ?_
     intro inv
     go_simp
     refine wpAnyLH_take (i:=2) (v:=slv g np np) rfl (by kernel_rfl) (fun _ _ _ h=>h) (.inl ⟨by rfl,fun W hW=>by go_simp⟩) d0 inv ?_
     intro inv
     go_simp
     refine wpAnyLH_take (i:=3) (v := .int .i64 c) rfl (by kernel_rfl) (fun _ _ _ h=>h) (.inl ⟨by rfl,fun W hW=>by go_simp⟩) d0 inv ?_
     intro inv
     go_simp
     refine wpAnyLH_take (i:=4) (v := .pointer (some ⟨g,c*2,none⟩)) rfl (by kernel_rfl) (fun _ _ _ h=>h) (.inl ⟨by rfl,fun W hW=>by go_simp⟩) d0 inv ?_
     intro inv
     go_simp
     refine wpAnyLH_take (i:=5) (v:=RV t) rfl (by kernel_rfl) (fun _ _ _ h=>h) (.inl ⟨by rfl,fun W hW=>by have z0:=hW.cell t0; have z1:=hW.cell t1; go_simp⟩) d0 inv ?_
     intro inv
     go_simp
     refine wpAnyLH_take (i:=6) (v := .slice (some ⟨gb,go,none⟩) m cap) rfl (by kernel_rfl) (fun _ _ _ h=>h) (.inl ⟨by rfl,fun W hW=>by go_simp⟩) d0 inv ?_
     intro inv
     go_simp
     refine wpAnyLH_take (i:=7) (v := .int .i64 i) rfl (by kernel_rfl) (fun _ _ _ h=>h) (.inl ⟨by rfl,fun W hW=>by go_simp⟩) d0 inv ?_
     intro inv
     go_simp
     refine wpAnyLH_take (i:=8) (v := .pointer (some ⟨gb,go+i,none⟩)) rfl (by kernel_rfl) (fun _ _ _ h=>h) (.inl ⟨by rfl,fun W hW=>by go_simp⟩) d0 inv ?_
     intro inv
     go_simp
     refine wpAnyLH_take (i:=9) (v := .slice (some ⟨xb,xo,none⟩) np xc) rfl (by kernel_rfl) (fun _ _ _ h=>h) (.inl ⟨by rfl,fun W hW=>by have z0:=hW.cell k0; go_simp⟩) d0 inv ?_
     intro inv
     go_simp
     refine wpAnyLH_take (i:=10) (v := .int .i64 c) rfl (by kernel_rfl) (fun _ _ _ h=>h) (.inl ⟨by rfl,fun W hW=>by go_simp⟩) d0 inv ?_
     intro inv
     go_simp
     refine wpAnyLH_take (i:=11) (v := .pointer (some ⟨xb,xo+c*2,none⟩)) rfl (by kernel_rfl) (fun _ _ _ h=>h) (.inl ⟨by rfl,fun W hW=>by go_simp⟩) d0 inv ?_
     intro inv
     go_simp
     refine wpAnyLH_take (i:=12) (v:=RV s) rfl (by kernel_rfl) (fun _ _ _ h=>h) (.inl ⟨by rfl,fun W hW=>by have z0:=hW.cell s0; have z1:=hW.cell s1; go_simp⟩) d0 inv ?_
     intro inv
     go_simp
     refine wpAnyLH_take (i:=13) (v := .slice (some ⟨fb,fo,none⟩) q fcap) rfl (by kernel_rfl) (fun _ _ _ h=>h) (.inl ⟨by rfl,fun W hW=>by go_simp⟩) d0 inv ?_
     intro inv
     go_simp
     refine wpAnyLH_take (i:=14) (v := .int .i64 i) rfl (by kernel_rfl) (fun _ _ _ h=>h) (.inl ⟨by rfl,fun W hW=>by go_simp⟩) d0 inv ?_
     intro inv
     go_simp
     refine wpAnyLH_take (i:=15) (v := .pointer (some ⟨fb,fo+i*2,none⟩)) rfl (by kernel_rfl) (fun _ _ _ h=>h) (.inl ⟨by rfl,fun W hW=>by go_simp⟩) d0 inv ?_
     intro inv
     go_simp
     refine wpAnyLH_take (i:=16) (v:=RV p) rfl (by kernel_rfl) (fun _ _ _ h=>h) (.inl ⟨by rfl,fun W hW=>by have z0:=hW.cell p0; have z1:=hW.cell p1; go_simp⟩) d0 inv ?_
     intro inv
     go_simp
     refine wpAnyLH_oneI (i:=17) rfl (by kernel_rfl) inv (fun inv K0 hK0 => ?_)
     go_simp
     refine (hmu.out _ d0).mono ?_
     rintro e X2 ⟨rfl,hG1⟩
     have d1:=d0.trans hG1
     refine hK0 _ _ d1 ?_
     clear hK0
     refine wpAnyLH_oneI (i:=18) rfl (by kernel_rfl) inv (fun inv K0 hK0 => ?_)
     go_simp
     refine (had.out _ d1).mono ?_
     rintro e X3 ⟨rfl,hG2⟩
     have d2:=d1.trans hG2
     refine hK0 _ _ d2 ?_
     clear hK0
     refine wpAnyLH_end (by kernel_rfl) ?_
     obtain ⟨z0,z1,f0',f1',HO9,hE9⟩:=FrV.stepE (eX.trans d2) Hgw.out (HO.out.ext d2) Hat.out (I (t+s*p).num) (I (t+s*p).den)
     rw [show ((I (t+s*p).num,I (t+s*p).den):Value×Value)=qv (qR (t+s*p)) from rfl,Hst.out] at HO9
     unfold qv qR at z0 z1
     clear hmu had inv d0 d1 hG1 hG2 t0 t1 s0 s1 p0 p1 HO k0
     go_wp2_with fail
     go_roundw
     case rel=>exact ⟨i+1,by omega,by go_num,HO9,hE9.out⟩
     case measure=>simp [intOf] <;> omega
    ·obtain rfl:i=m:=by omega
     have hii : ¬ (i:Int)<(i:Int):=by omega
     have HOn:=Lib.hid (show FrV g X g (c24 L fs np (c+1) emQ) by rw [← c24_next, ← Hm.out]; exact HO.out)
     have hcn:c<np:=Hlt.out
     clear HO
     go_wp2_with fail
     go_roundw
     case rel=>exact ⟨c+1,by omega,by go_num,HOn,eX⟩
     case measure=>simp [intOf] <;> omega
  ·obtain rfl:c=np:=by omega
   have hci : ¬ (c:Int)<(c:Int):=by omega
   have HOn:=Lib.hid (FrV.own (show FrV g Y g ((cmbQ L fs c).map fun r=>qv (qR r)) by rw [← c24_end]; exact HO.out))
   clear HO
   go_wp2_with fail
   go_ret
   exact ⟨⟨g,rfl,by rw [← Hg.out]; exact HOn.out⟩,hE⟩
set_option maxHeartbeats 2000000 in
theorem factors24_any {w:World} {v:Value} {x:List Int} (hx:RowR w v x) (hl:x.length≤1000000) (h64 : ∀ z∈x,I64 z) (hL:Laid w) :
  Calls Tryz.prog 42 #[v] w fun e w'=>(∃ u,e = .returned u∧SzV w.heap.size w' u (nbL x))∧Ext w w':=by
 obtain ⟨sa,gb,go,cap,rfl,hc,hS⟩:=hx
 have HS:=Lib.hid hS
 have H64:=Lib.hid h64
 have HL:=Lib.hid hL
 obtain ⟨n,hn⟩ : ∃ n,n=x.length:=⟨_,rfl⟩
 rw [← hn] at hc hl ⊢
 have Hn:=Lib.hid hn
 clear hS h64 hL hn
 go_enter Tryz.func42,Tryz.ntmps42
 go_wp2_with fail
 go_loopw [3,4] (fun u iv wr => ∃ i:Nat,i≤n∧iv = .int .i64 i∧Hid (SzV w.heap.size wr u (nbL (x.take i)))∧Ext w wr) (fun _ iv _=>n-(intOf iv).toNat)
 case atStart=>exact ⟨0,by omega,by go_num,Lib.hid (SzV.nil _ _),Ext.refl _⟩
 case round =>
  obtain ⟨i,hi,rfl,HV,hE⟩:=hrel
  generalize wr=Y at *
  have hYs:=hE.size
  by_cases hlt:i<n
  ·have hii:(i:Int)<(n:Int):=by omega
   have hix:i<x.length:=by rw [← Hn.out]; exact hlt
   obtain rfl:=HS.out.addr (by simp; omega)
   have k0:=HS.out.cell i (.int .i64 x[i]) (by simp [is,List.getElem?_eq_getElem hix])
   have y0:=hE.cell k0
   have h6:=H64.out _ (List.getElem_mem hix)
   have hof:=Lib.hid (fun W (hW:Ext Y W)=>whole24_any (n:=x[i]) h6 (HL.out.ext (hE.trans hW)))
   have Hst:=Lib.hid (nbL_snoc hix)
   have hlen:(nbL (x.take i)).length=i:=by rw [nbL_length,List.length_take]; omega
   have Hlen:=Lib.hid hlen
   have Hmin:=Lib.hid (show min i x.length=i by omega)
   clear k0 hlen h6
   obtain ⟨r,hr⟩ : ∃ r:Rat,r=(x[i]:Rat):=⟨_,rfl⟩
   rw [← hr] at hof Hst
   generalize x[i]=z at *
   clear hr hix
   go_wp2_with fail
   refine (hof.out _ (Ext.refl _)).mono ?_
   rintro e Z ⟨rfl,hE2⟩
   have eA:=hE2.alloc (.cells #[I r.num,I r.den] 81)
   have hO:=two_alloc Z 81 (I r.num) (I r.den)
   have z0:=hO.cell (j:=0) (by simp)
   have z1:=hO.cell (j:=1) (by simp)
   simp only [List.getElem_cons_zero,List.getElem_cons_succ] at z0 z1
   have HVZ:=Lib.hid (HV.out.ext eA)
   have hZs:=hE2.size
   clear hO hof y0
   go_wp2_with (at_builtin; refine app_rat rfl _ _ 59 Tryz.underlying59 rfl (B:=w.heap.size) rfl HVZ.out (b:=Z.heap.size) (r:=r) rfl z0 z1 (by rw [Hlen.out]; omega) (by simp; omega) ?_; intro g9 cap9 w9 hO9 hB9 _; rw [Hst.out,Hlen.out] at hO9; have HO9:=Lib.hid hO9; have e9:=Below.trans (hE.trans eA) hB9; clear hO9 hB9)
   go_wp2_with fail
   go_roundw
   case rel=>exact ⟨i+1,by omega,by go_num,by rw [Hmin.out]; exact HO9,e9⟩
   case measure=>simp [intOf] <;> omega
  ·obtain rfl:i=n:=by omega
   have Hres:=Lib.hid (show SzV w.heap.size Y _ (nbL x) by have:=HV.out; rw [Hn.out,List.take_length] at this; exact this)
   have hii : ¬ (i:Int)<(i:Int):=by omega
   go_wp2_with fail
   go_ret
   exact ⟨⟨_,rfl,Hres.out⟩,hE⟩
theorem tmpT_b24 {x v:List Int} (hx : ∀ z∈x,-1000≤z∧z≤1000) (hv : ∀ z∈v,-1000000000≤z∧z≤1000000000) : ∀ k,(sumZ (fun i=>x.getD i 0*v.getD i 0) k).natAbs≤k*1000000000000
 | 0=>by simp [sumZ]
 | k+1=>by
  have h1:=tmpT_b24 hx hv k
  have h2:(x.getD k 0*v.getD k 0).natAbs≤1000000000000:=by
   rw [Int.natAbs_mul]
   have a1:(x.getD k 0).natAbs≤1000:=by
    rw [List.getD_eq_getElem?_getD]
    rcases Nat.lt_or_ge k x.length with h | h
    ·rw [List.getElem?_eq_getElem h]; have:=hx _ (List.getElem_mem h); simp only [Option.getD_some]; omega
    ·rw [List.getElem?_eq_none h]; simp
   have a2:(v.getD k 0).natAbs≤1000000000:=by have:=getD_bd9 hv k; omega
   exact Nat.le_trans (Nat.mul_le_mul a1 a2) (by decide)
  rw [sumZ]; omega
set_option maxHeartbeats 4000000 in
theorem sizeOf24_any {w:World} {P:List Int} {C M:Mx} {G:List (List Rat)} {sp:Option Addr} {cp:Nat} {sc:Option Addr} {lc cc:Nat} {sm:Option Addr} {lm cm:Nat} {sg:Option Addr} {lg cg:Nat} {sx:Option Addr} {nx cx:Nat} {x:List Int} (h:TuV w P C M G sp cp sc lc cc sm lm cm sg lg cg) (hx:RowR w (.slice sx nx cx) x) (h0:tuE P.length M x=0) (hL:Laid w) :
  Calls Tryz.prog 46 #[tuS P sp cp sc lc cc sm lm cm sg lg cg,.slice sx nx cx] w fun e w'=>(∃ g,e = .returned (slv g P.length P.length)∧SzO w.heap.size w' g (tuL P.length M G x))∧Ext w w':=by
 obtain ⟨hmz,hsm⟩:=tuE_zero h0
 obtain ⟨hxl,hxb⟩:=mzE_zero hmz
 obtain ⟨hT,hG,hln,hcl,hsh⟩:=h
 have hm4:=hT.m4
 have hp4:=hT.ok.p4
 have hsM:=hT.ok.sM
 have hnx:nx=P.length:=by obtain ⟨_,_,_,_,e,_⟩:=hx; injection e with _ e2 _; omega
 have Hfac:=Lib.hid (fun W v (hW:Ext w W) (hv:RowR W v (tmpL M x))=>factors24_any (w:=W) (v:=v) hv (by rw [tmpL_length]; omega) (fun z hz=>by have:=smallB_iff.1 hsm z hz; unfold I64; omega) (hL.ext hW))
 have Hcmb:=Lib.hid (fun W v (hW:Ext w W) (hv:SzR W v (nbL (tmpL M x)))=>combine24_any (np:=P.length) (hG.ext hW) hv hcl (by rw [nbL_length,tmpL_length]; omega) (fun s hs=>shQ_nd (hsh s hs) (by omega)) (nbL_nd (smallB_iff.1 hsm) (by omega)) (by omega) (by omega) (hL.ext hW))
 have hdef:tuL P.length M G x=cmbQ G (nbL (tmpL M x)) P.length:=rfl
 simp only [← hdef] at Hcmb
 obtain ⟨sx',gx,ox,cx',ex,hxc,hSx⟩:=hx
 injection ex with q1 q2 q3
 subst q1 q3
 have HSx:=Lib.hid hSx
 obtain ⟨sm',gm,om,cm',vs,em,hmc,hvl,hSm,hrm⟩:=hT.hM
 injection em with q4 q5 q6
 subst q4 q6
 have HS:=Lib.hid hSm
 have HV:=Lib.hid hvl
 have HR:=Lib.hid hrm
 have hX:=(Ext.refl w).alloc (.cells #[.slice sp P.length cp,.slice sc lc cc,.slice sm lm cm,.slice sg lg cg] 67)
 have x0:(w.alloc (.cells #[.slice sp P.length cp,.slice sc lc cc,.slice sm lm cm,.slice sg lg cg] 67)).cell? ⟨w.heap.size,0,none⟩=some (.slice sp P.length cp):=by go_simp
 have x1:(w.alloc (.cells #[.slice sp P.length cp,.slice sc lc cc,.slice sm lm cm,.slice sg lg cg] 67)).cell? ⟨w.heap.size,1,none⟩=some (.slice sc lc cc):=by go_simp
 have x2:(w.alloc (.cells #[.slice sp P.length cp,.slice sc lc cc,.slice sm lm cm,.slice sg lg cg] 67)).cell? ⟨w.heap.size,2,none⟩=some (.slice sm lm cm):=by go_simp
 have x3:(w.alloc (.cells #[.slice sp P.length cp,.slice sc lc cc,.slice sm lm cm,.slice sg lg cg] 67)).cell? ⟨w.heap.size,3,none⟩=some (.slice sg lg cg):=by go_simp
 subst q5
 subst hnx
 have Hxl:=Lib.hid hxl
 have Hb:=Lib.hid (fun i (h:i<M.length) k=>tmpT_b24 hxb (hsM _ (List.getElem_mem h)) k)
 have Hrl:=Lib.hid (show ∀ i (h:i<M.length),M[i].length=P.length from fun i h=>by
  obtain ⟨psM,hIM⟩:=hT.ok.kM.1
  exact hIM.rect _ (List.getElem_mem h))
 have Htl:=Lib.hid (tmpL_length M x)
 have Htg:Hid (∀ i (h:i<M.length),(tmpL M x).take (i+1)=(tmpL M x).take i++[sumZ (fun k=>x.getD k 0*M[i].getD k 0) P.length]):=Lib.hid (fun i h=>by
  have hi:i<(tmpL M x).length:=by rw [tmpL_length]; exact h
  have e:(tmpL M x)[i]=sumZ (fun k=>x.getD k 0*M[i].getD k 0) P.length:=by
   simp only [tmpL,List.getElem_map]
   exact congrArg (sumZ (fun k=>x.getD k 0*M[i].getD k 0)) hxl
  rw [List.take_succ_eq_append_getElem hi,e])
 have hw1:w.heap.size+1=(w.alloc (.cells #[.slice sp P.length cp,.slice sc lc cc,.slice sm M.length cm,.slice sg lg cg] 67)).heap.size:=by simp
 clear hT hG hln hcl hsh hsM hmz hsm hxb h0 hL hdef hSx hSm hrm hvl hxl q2 hxc
 go_enter Tryz.func46,Tryz.ntmps46
 go_wp2_with fail
 generalize w.alloc (.cells #[.slice sp P.length cp,.slice sc lc cc,.slice sm M.length cm,.slice sg lg cg] 67)=X at *
 have Hw1:=Lib.hid hw1
 clear hw1
 go_loopw [5,6] (fun tv iv wr => ∃ i:Nat,i≤M.length∧iv = .int .i64 i∧Hid (RowV X.heap.size wr tv ((tmpL M x).take i))∧Ext X wr) (fun _ iv _=>M.length-(intOf iv).toNat)
 case atStart=>exact ⟨0,by omega,by go_num,Lib.hid (RowV.nil _ _),Ext.refl _⟩
 case round =>
  obtain ⟨i,hi,rfl,HVr,hE⟩:=hrel
  generalize wr=Y at *
  have y0:=hE.cell x0
  have y2:=hE.cell x2
  have y3:=hE.cell x3
  have eY:=hX.trans hE
  have hYs:=hE.size
  by_cases hlt:i<M.length
  ·have hii:(i:Int)<(M.length:Int):=by omega
   obtain rfl:=HS.out.addr (by rw [HV.out]; omega)
   obtain ⟨sr,br,or,cr,hrow,hrc,hSr⟩:=MatR.row HS.out HV.out HR.out hlt
   have hrl:=Hrl.out i hlt
   rw [hrl] at hrow hrc
   have yr:=eY.cell hrow
   have HSr:=Lib.hid hSr
   have Htk:=Lib.hid (Htg.out i hlt)
   have Hbi:=Lib.hid (Hb.out i hlt)
   obtain ⟨v,hv⟩ : ∃ v,v=M[i]:=⟨_,rfl⟩
   rw [← hv] at Htk Hbi hrl
   have Hv:=Lib.hid hv
   have hil:((tmpL M x).take i).length=i:=by rw [List.length_take,Htl.out]; omega
   have Hil:=Lib.hid hil
   have Hvl:=Lib.hid hrl
   have HYs:=Lib.hid hYs
   clear hrow hSr hil hv hrl hYs
   go_wp2_with fail
   go_loopw [7,8] (fun sv kv wr => ∃ k:Nat,k≤P.length∧kv = .int .i64 k∧sv = .int .i64 (sumZ (fun t=>x.getD t 0*v.getD t 0) k)∧Ext Y wr) (fun _ kv _=>P.length-(intOf kv).toNat)
   case atStart=>exact ⟨0,by omega,by go_num,rfl,Ext.refl _⟩
   case round =>
    obtain ⟨k,hk,rfl,rfl,hEk⟩:=hrel
    generalize wr=U at *
    have u2:=hEk.cell y2
    have ur:=hEk.cell yr
    have u0:=hEk.cell y0
    have u3:=hEk.cell y3
    by_cases hkl:k<P.length
    ·have hki:(k:Int)<(P.length:Int):=by omega
     have hkx:k<x.length:=by rw [Hxl.out]; exact hkl
     have hkv:k<v.length:=by rw [Hvl.out]; exact hkl
     obtain rfl:=HSx.out.addr (by simp; omega)
     obtain rfl:=HSr.out.addr (by simp; rw [← Hv.out,Hvl.out]; omega)
     have cx0:=(eY.trans hEk).cell (HSx.out.cell k (.int .i64 x[k]) (is_get hkx))
     have cv0:=(eY.trans hEk).cell (HSr.out.cell k (.int .i64 v[k]) (by
      have:=Hv.out
      subst this
      exact is_get hkv))
     have hxk:x.getD k 0=x[k]:=getD_get hkx 0
     have hvk:v.getD k 0=v[k]:=getD_get hkv 0
     obtain ⟨p,hp⟩ : ∃ p,p=x[k]:=⟨_,rfl⟩
     obtain ⟨q,hq⟩ : ∃ q,q=v[k]:=⟨_,rfl⟩
     rw [← hp] at cx0 hxk
     rw [← hq] at cv0 hvk
     obtain ⟨s,hs⟩ : ∃ s,s=sumZ (fun t=>x.getD t 0*v.getD t 0) k:=⟨_,rfl⟩
     have hs1:sumZ (fun t=>x.getD t 0*v.getD t 0) (k+1)=s+q*p:=by rw [sumZ, ← hs,hxk,hvk,Int.mul_comm]
     have b0:=Hbi.out k
     have b1:=Hbi.out (k+1)
     rw [← hs] at b0 ⊢
     rw [hs1] at b1
     have hkb:k*1000000000000≤4*1000000000000:=Nat.mul_le_mul_right _ (by omega)
     have hkb1:(k+1)*1000000000000≤5*1000000000000:=Nat.mul_le_mul_right _ (by omega)
     have hm:IntKind.i64.wrap (q*p)=q*p:=IntWalk.i64_in _ (by omega)
     have ha:IntKind.i64.wrap (s+q*p)=s+q*p:=IntWalk.i64_in _ (by omega)
     have Hs1:=Lib.hid hs1
     clear hp hq hs hxk hvk hkx hkv b0 b1 hs1 hkb hkb1
     go_wp2_with fail
     go_quiet (fail)
     have hEk:=hEk.drewN nq
     go_wp2_with fail
     go_roundw
     case rel=>exact ⟨k+1,by omega,by go_num,by rw [Hs1.out],hEk⟩
     case measure=>simp [intOf] <;> omega
    ·obtain rfl:k=P.length:=by omega
     have hki : ¬ (P.length:Int)<(P.length:Int):=by omega
     have hEU:=hE.trans hEk
     have HVZ:=Lib.hid (HVr.out.ext hEk)
     have hUs:=hEU.size
     obtain ⟨z,hz⟩ : ∃ z,z=sumZ (fun t=>x.getD t 0*v.getD t 0) P.length:=⟨_,rfl⟩
     have Htk2:=Lib.hid (show (tmpL M x).take (i+1)=(tmpL M x).take i++[z] by rw [hz]; exact Htk.out)
     rw [← hz]
     clear hz hkl Hbi yr ur u0 u2 u3 y0 y2 y3
     go_wp2_with (at_builtin; refine app_int rfl _ _ 30 Tryz.underlying30 rfl rfl (HVZ.out.ext ((Ext.refl _).alloc _)) rfl (b:=U.heap.size) (z:=z) (by go_simp) (by rw [Hil.out]; omega) (by simp; omega) ?_; intro gg cap2 w8 hO8 hB8 hG8; rw [Hil.out, ← Htk2.out] at hO8; rw [Hil.out])
     have hE8:Ext X w8:=Below.trans (hEU.alloc _) hB8
     have HO8:=Lib.hid hO8
     clear hG8 hB8 hO8
     go_wp2_with fail
     go_roundw
     case rel=>exact ⟨i+1,by omega,by go_num,HO8,hE8⟩
     case measure=>simp [intOf] <;> omega
  ·obtain rfl:i=M.length:=by omega
   have hii : ¬ (M.length:Int)<(M.length:Int):=by omega
   have HVf:=Lib.hid (show RowV X.heap.size Y u5 (tmpL M x) by have:=HVr.out; rw [← Htl.out,List.take_length] at this; exact this)
   obtain ⟨va,vl,vc,rfl⟩:=RowV.slice HVf.out
   clear HVr hlt
   go_wp2_with fail
   have d0:Ext Y Y.drew:=(Ext.refl Y).drew
   refine wp_region_held_tail (S:=fun W=>Ext Y W) 9 (by kernel_rfl) (by simp) ?_
   intro inv
   generalize Y.drew=Y1 at *
   refine wpAnyLH_take (i:=0) (v := .pointer (some ⟨w.heap.size,3,none⟩)) rfl (by kernel_rfl) (fun _ _ _ h=>h) (.inl ⟨by rfl,fun W hW=>by go_simp⟩) d0 inv ?_
   intro inv
   go_simp
   refine wpAnyLH_take (i:=1) (v := .slice sg lg cg) rfl (by kernel_rfl) (fun _ _ _ h=>h) (.inl ⟨by rfl,fun W hW=>by have z0:=hW.cell y3; go_simp⟩) d0 inv ?_
   intro inv
   go_simp
   refine wpAnyLH_take (i:=2) (v := .slice va vl vc) rfl (by kernel_rfl) (fun _ _ _ h=>h) (.inl ⟨by rfl,fun W hW=>by go_simp⟩) d0 inv ?_
   intro inv
   go_simp
   refine wpAnyLH_take (i:=4) (v := .pointer (some ⟨w.heap.size,0,none⟩)) rfl (by kernel_rfl) (fun _ _ _ h=>h) (.inl ⟨by rfl,fun W hW=>by go_simp⟩) d0 inv ?_
   intro inv
   go_simp
   refine wpAnyLH_take (i:=5) (v := .pointer (some ⟨w.heap.size,0,none⟩)) rfl (by kernel_rfl) (fun _ _ _ h=>h) (.inl ⟨by rfl,fun W hW=>by go_simp⟩) d0 inv ?_
   intro inv
   go_simp
   refine wpAnyLH_take (i:=6) (v := .slice sp P.length cp) rfl (by kernel_rfl) (fun _ _ _ h=>h) (.inl ⟨by rfl,fun W hW=>by have z0:=hW.cell y0; go_simp⟩) d0 inv ?_
   intro inv
   go_simp
   refine wpAnyLH_take (i:=7) (v := .int .i64 P.length) rfl (by kernel_rfl) (fun _ _ _ h=>h) (.inl ⟨by rfl,fun W hW=>by go_simp⟩) d0 inv ?_
   intro inv
   go_simp
   refine wpAnyLH_oneI (i:=3) rfl (by kernel_rfl) inv (fun inv K0 hK0 => ?_)
   go_simp
   refine (Hfac.out _ _ (eY.trans d0) (HVf.out.row.ext d0)).mono ?_
   rintro e Y2 ⟨⟨u,rfl,hu⟩,hG1⟩
   have d1:=d0.trans hG1
   have Hu:=Lib.hid hu.read
   obtain ⟨ua,ul,uc,rfl⟩:=hu.slice
   refine hK0 _ _ d1 ?_
   clear hK0 hu
   refine wpAnyLH_oneI (i:=8) rfl (by kernel_rfl) inv (fun inv K0 hK0 => ?_)
   go_simp
   refine (Hcmb.out _ _ (eY.trans d1) Hu.out).mono ?_
   rintro e Y3 ⟨⟨gq,rfl,hO⟩,hG2⟩
   have d2:=d1.trans hG2
   have HO:=Lib.hid (hO.mono (B':=w.heap.size) (by have:=eY.size; have:=d1.size; omega))
   refine hK0 _ _ d2 ?_
   clear hK0 hO
   refine wpAnyLH_end (by kernel_rfl) ?_
   have e9:=eY.trans d2
   clear inv d0 d1 d2 hG1 hG2 Hfac Hcmb Hu HVf
   go_wp2_with fail
   go_ret
   exact ⟨⟨gq,rfl,HO.out⟩,e9⟩
end Go.Proofs.YtjnpakablgommaaGreatDoor
