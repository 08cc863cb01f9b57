/- Part 44 of the proof of the claim: contracts of the functions that it reaches, and plain laws; no condition. -/
import Derived.Test.YtmhfccigejcphaaGreatDoorV39
import Derived.Test.YtmhfccigejcphaaGreatDoorV43
import Derived.Test.YtmhfccigejcphaaGreatDoorV41
import Derived.Test.YtmhfccigejcphaaGreatDoorV42
import Derived.Test.YtmhfccigejcphaaGreatDoorV33
import Derived.Test.YtmhfccigejcphaaGreatDoorV34
set_option maxRecDepth 100000
namespace Go.Proofs.YtmhfccigejcphaaGreatDoor
open Go.RowKit Go.Sort
open Lib (hid)
variable {w:World} {n cp m cu gm nx cx:Nat} {sp sx:Option Addr} {vo:Value} {P:List Int} {M:Mx} {O:List Rat} {vl x:List Int}
theorem box9 (w:World) (p:Int) (u:Nat→Nat→Int) (o:Nat→Int) : ∀ j v,(#[.int .u8 p,.int .i8 (u 0 0),.int .i8 (u 0 1),.int .i8 (u 0 2),.int .i8 (u 1 0),.int .i8 (u 1 1),.int .i8 (u 1 2),.int .i8 (o 0),.int .i8 (o 1)]:Array Value)[j]? = some v→(w.alloc (.cells #[.int .u8 p,.int .i8 (u 0 0),.int .i8 (u 0 1),.int .i8 (u 0 2),.int .i8 (u 1 0),.int .i8 (u 1 1),.int .i8 (u 1 2),.int .i8 (o 0),.int .i8 (o 1)] 56)).cell? ⟨w.heap.size,j,none⟩=some v:=fun j v h=>by
 have hj:j<9:=(Array.getElem?_eq_some_iff.1 h).1
 rcases (show j=0∨j=1∨j=2∨j=3∨j=4∨j=5∨j=6∨j=7∨j=8 by omega) with rfl | rfl | rfl | rfl | rfl | rfl | rfl | rfl | rfl <;> (simp at h; subst h; go_simp)
variable {w:World} {n cp m cu gm nx cx:Nat} {sp sx:Option Addr} {vo:Value} {P:List Int} {M:Mx} {O:List Rat} {vl x:List Int}
theorem RdPost.from {w w0:World} {X:List Int} {e:Ending} {w':World} (h:RdPost w0 n M O X e w') (hE:Ext w w0):RdPost w n M O X e w':=by
 obtain ⟨v,c,he,hC,hR,hE2⟩:=h;exact ⟨v,c,he,hC,hR.mono hE.size,hE.trans hE2⟩
theorem Reduce_ok (h:FkB w n cp m cu gm sp vo P M O vl) (hx:RowR w (.slice sx nx cx) x) (he:mzE n x=0) (hL:Laid w) :
  Calls Tryz.prog 23 #[bkv n cp m cu gm sp vo,.slice sx nx cx] w (RdPost w n M O x):=by
 obtain ⟨hxl,hxb⟩:=mzE_zero he;have hop:=hid (fun W (hW:Ext w W)=>with_any (h.ext hW) (hx.ext hW) (hL.ext hW));have HX:=box3 w 60 (.slice sp n cp) (.slice (some ⟨gm,0,none⟩) m cu) vo;have hE0:Ext w (w.alloc (.cells #[.slice sp n cp,.slice (some ⟨gm,0,none⟩) m cu,vo] 60)):=(Ext.refl w).alloc _;obtain ⟨a0,a1,a2⟩:=cell3 HX;have H:=hid h;have HL:=hid hL;have Hx:=hid hx;have Hl:=hid hxl;have Hb:=hid (show ∀ z∈x,-1000000000≤z∧z≤1000000000 from fun z hz=>⟨by have:=(hxb z hz).1; omega,by have:=(hxb z hz).2; omega⟩);have He:=hid he;clear h hL HX hx hxl hxb he
 go_enter Tryz.func23,Tryz.ntmps23
 go_wp2_with fail;refine (hop.out _ hE0).mono ?_;rintro e W1 (⟨_,bq,vv,rfl,hO,hR,hE1⟩ | ⟨h0,_⟩);rotate_left
 ·exact absurd He.out h0
 have hEr:=hE0.trans hE1;have hf:=H.out.opened hEr hO hR;have hrd:=hid (reduce36_any hf.hB hf.c0 hf.c1 hf.c2 hf.hM hf.hO hf.hOl (fun x hx=>(hf.hOn x hx).mono (by decide)) hf.hOb (Hx.out.ext hEr) Hl.out Hb.out (HL.out.ext hEr));clear hf hO hR hop;go_wp2_with fail;refine hrd.out.mono ?_;rintro e W2 hQ;have hq:=hid (hQ.from hEr);obtain ⟨v,c,rfl,_⟩:=hQ;go_wp2_with fail;go_ret2;exact hq.out
variable {w:World} {n cp m cu gm nx cx:Nat} {sp sx:Option Addr} {vo:Value} {P:List Int} {M:Mx} {O:List Rat} {vl x:List Int}
def HaPost (w:World) (n:Nat) (M:Mx) (O:List Rat) (x:List Int) (e:Ending) (w':World):Prop :=
 ∃ (bv:Bool) (c:Nat→Rat),e = .returned (.tuple #[.bool bv,.int .i64 0])∧CoV n M (fun i=>((x.getD i 0:Int):Rat)) c∧(bv=true ↔ ∀ j,j<n→qE O c j=0)∧Ext w w'
set_option maxHeartbeats 4000000 in
theorem Has_ok (h:FkB w n cp m cu gm sp vo P M O vl) (hx:RowR w (.slice sx nx cx) x) (he:mzE n x=0) (hL:Laid w) :
  Calls Tryz.prog 26 #[bkv n cp m cu gm sp vo,.slice sx nx cx] w (HaPost w n M O x):=by
 obtain ⟨hxl,hxb⟩:=mzE_zero he;have hop:=hid (fun W (hW:Ext w W)=>with_any (h.ext hW) (hx.ext hW) (hL.ext hW));have HX:=box3 w 60 (.slice sp n cp) (.slice (some ⟨gm,0,none⟩) m cu) vo;have hE0:Ext w (w.alloc (.cells #[.slice sp n cp,.slice (some ⟨gm,0,none⟩) m cu,vo] 60)):=(Ext.refl w).alloc _;obtain ⟨a0,a1,a2⟩:=cell3 HX;have hn:=h.hB.hn;have H:=hid h;have Hml:=hid h.ml;have Hx:=hid hx;have Hxl:=hid hxl;have HL:=hid hL;have Hxb:=hid (show ∀ z∈x,-1000000000≤z∧z≤1000000000 from fun z hz=>⟨by have:=(hxb z hz).1; omega,by have:=(hxb z hz).2; omega⟩);have He:=hid he;have hn0:0<n:=by omega
 have hn3:n≤3:=by omega
 clear h hL HX hx hxl hxb he hn
 go_enter Tryz.func26,Tryz.ntmps26
 go_wp2_with fail;refine (hop.out _ hE0).mono ?_;rintro e W1 (⟨_,bq,vv,rfl,hO,hR,hE1⟩ | ⟨h0,_⟩);rotate_left
 ·exact absurd He.out h0
 have hEr:=hE0.trans hE1;have hf:=H.out.opened hEr hO hR;have hco:=hid (coord_any hf.hB hf.c0 hf.c1 hf.hM (Hx.out.ext hEr) Hxl.out Hxb.out (HL.out.ext hEr));have c2:=hf.c2;obtain ⟨so,go,oo,co,rfl,hcO,hsO,hOc⟩:=hf.hO;have hOl:O.length=m:=by rw [hf.hOl,Hml.out]
 have hMl:=hf.hB.len;have Hmn:=hid (show m+1=n by rw [Hml.out]; omega);have HOn:=hid hf.hOn;have HOc:=hid hOc;have HOl:=hid hOl;rw [hOl] at c2 hcO hsO;have HsO:=hid hsO;clear hf hO hR hop hOc hOl hMl hsO a0 a1 a2;go_wp2_with fail;refine hco.out.mono ?_;rintro e Y ⟨lv,l,rfl,hll,hCo,hNd,hlv,hEY⟩;obtain ⟨gl,cl,hlve⟩:=sz_pos hlv (by omega);rw [hll] at hlve;subst hlve;have HO:=hid (sz_own hlv hll);have hCl:n≤cl:=by have:=HO.out.cap; rw [hll] at this; exact this
 have HCo:=hid hCo;have HNd:=hid (show ∀ j,NdQ 10000000 (l.getD j 0) from fun j=>NdQ.getD hNd (by omega) j);have Hll:=hid hll;have hEw:=hEr.trans hEY;have HE1:=hid hEY;clear hCo hNd hlv hll hco;go_wp2_with fail
 go_loopw [23] (fun idx wr => ∃ (k:Nat),k≤n∧idx = .int .i64 k∧Hid (∀ j,j<k→qE O (fun j=>l.getD j 0) j=0)∧Ext Y wr) (fun idx _=>n-(intOf idx).toNat)
 case atStart=>exact ⟨0,by omega,by go_num,hid (fun j hj=>absurd hj (by omega)),Ext.refl _⟩
 case round =>
  obtain ⟨k,hk',rfl,hQ,hE⟩:=hrel;generalize wr=V at *
  by_cases hkn:k<n
  ·have hki:(k:Int)<(n:Int):=by omega
   obtain ⟨l0,l1⟩:=(HO.out.ext hE).cells (i:=k) (by rw [Hll.out]; exact hkn);obtain ⟨ck,hck⟩ : ∃ ck,ck=l.getD k 0:=⟨_,rfl⟩
   have hck2:l[k]'(by rw [Hll.out]; exact hkn)=ck:=by rw [hck,List.getD_eq_getElem?_getD,List.getElem?_eq_getElem (by rw [Hll.out]; exact hkn)]; rfl
   rw [hck2] at l0 l1;have HP:=hid (rq_new V (I ck.num) (I ck.den));have Hck:=hid hck;have eA:Ext V (V.alloc (.cells #[I ck.num,I ck.den] 84)):=(Ext.refl V).alloc _;have hbV:=hE.size;have hE2:=hE.trans eA;clear hck hck2;go_upto_region 7 with fail;generalize V.alloc (.cells #[I ck.num,I ck.den] _)=V2 at *;obtain ⟨b10,hb10⟩ : ∃ b10,b10=V.heap.size:=⟨_,rfl⟩
   rw [← hb10] at HP hbV ⊢;have HP2:=hid (HP.out.mono hbV);clear hb10 l0 l1 HP eA;go_upto_if 29 with fail
   go_cut [] from 28 to 41 (fun wx => ∃ d:Rat,d=l.getD k 0-offE O k∧Hid (OwnV 84 Y.heap.size wx b10 2 [I d.num,I d.den])∧Ext Y wx)
   case first =>
    by_cases hk0:k=0
    ·subst hk0;go_wp2_with fail;go_meet;refine ⟨ck,?_,HP2,hE2⟩;rw [Hck.out]; unfold offE; rw [if_pos rfl]; grind
    ·obtain ⟨k1,hk1⟩ : ∃ k1,k1=k-1:=⟨_,rfl⟩
     have hk1m:k1<O.length:=by rw [HOl.out]; have:=Hmn.out; omega
     obtain ⟨o,ho⟩ : ∃ o,o=O[k1]:=⟨_,rfl⟩
     have o1:=HOc.out k1 hk1m;rw [← ho] at o1;obtain rfl:=HsO.out (by have:=Hmn.out; omega);have hE12:=HE1.out.trans hE2;have q1:=hE12.cell c2;have q3:=hE12.cell o1.1;have q4:=hE12.cell o1.2
     have hd:=hid (show ck-o=l.getD k 0-offE O k by
      rw [Hck.out,ho]; unfold offE; rw [if_neg hk0, ← hk1,show O.getD k1 0=O[k1] from by rw [List.getD_eq_getElem?_getD,List.getElem?_eq_getElem hk1m]; rfl])
     have hon:NdQ 100 o:=by rw [ho]; exact HOn.out _ (List.getElem_mem hk1m)
     have hoS:=hid (hon.smQ (by omega));have hcS:=hid (show SmQ ck by rw [Hck.out]; exact (HNd.out k).smQ (by omega));have hkp:(0:Int)<(k:Int):=by omega
     have hk1i:(k:Int)-1=(k1:Int):=by omega
     have hk1m':(k1:Int)<(m:Int):=by have:=Hmn.out; omega
     have hwr:IntKind.i64.wrap ((k:Int)-1)=(k1:Int):=by rw [hk1i]; exact IntWalk.i64_in _ (by omega)
     have Hsu:=hid (fun W (hW:Ext V2 W)=>ratSub_any hcS.out hoS.out (w:=W) (HL.out.ext ((hEw.trans hE2).trans hW)));obtain ⟨d,hdq⟩ : ∃ d,d=ck-o:=⟨_,rfl⟩
     rw [← hdq] at Hsu hd;obtain ⟨p0,p1,_,_⟩:=rq_cell HP2.out;clear o1 ho hk1 hk1m hon hdq hk1i hE12;go_wp2_with fail;have d0:Ext V2 V2.drew:=(Ext.refl V2).drew;refine wp_region_held_tail (S:=fun W=>Ext V2 W) 11 (by kernel_rfl) (by simp) ?_;intro inv;generalize V2.drew=V2d at *;refine tkA (i:=0) (v:=RV ck) rfl (.inl ⟨by rfl,fun W hW=>by have y0:=hW.cell p0; have y1:=hW.cell p1; go_simp⟩) d0 inv ?_;intro inv;go_simp;refine tkS (i:=1) (v := .pointer (some ⟨bq,0,none⟩)) rfl d0 inv ?_;intro inv;go_simp;refine tkS (i:=2) (v := .pointer (some ⟨bq,0,none⟩)) rfl d0 inv ?_;intro inv;go_simp;refine tkS (i:=3) (v := .pointer (some ⟨bq,0,none⟩)) rfl d0 inv ?_;intro inv;go_simp;refine tkS (i:=4) (v := .pointer (some ⟨bq,2,none⟩)) rfl d0 inv ?_;intro inv;go_simp;refine tkA (i:=5) (v := .slice (some ⟨go,oo,none⟩) m co) rfl (.inl ⟨by rfl,fun W hW=>by have y0:=hW.cell q1; go_simp⟩) d0 inv ?_;intro inv;go_simp;refine tkS (i:=6) (v := .int .i64 k) rfl d0 inv ?_;intro inv;go_simp;refine tkS (i:=7) (v := .int .i64 k1) rfl d0 inv ?_;intro inv;go_simp;refine tkS (i:=8) (v := .pointer (some ⟨go,oo+k1*2,none⟩)) rfl d0 inv ?_;intro inv;go_simp;refine tkA (i:=9) (v:=RV o) rfl (.inl ⟨by rfl,fun W hW=>by have y0:=hW.cell q3; have y1:=hW.cell q4; go_simp⟩) d0 inv ?_;intro inv;go_simp;refine wpAnyLH_oneI (i:=10) rfl (by kernel_rfl) inv (fun inv K0 hK0 => ?_);go_simp;refine (Hsu.out _ d0).mono ?_;rintro e V3 ⟨rfl,hGc⟩;have d1:=d0.trans hGc;refine hK0 _ _ d1 ?_;clear hK0;refine wpAnyLH_end (by kernel_rfl) ?_
     obtain ⟨hP3,hE3,hG3⟩:=rq_set (HP2.out.ext d1) (hE2.trans d1) (by omega) (I d.num) (I d.den);obtain ⟨_,_,f0,f1⟩:=rq_cell (HP2.out.ext d1);have HP3:=hid hP3;have HE3:=hid hE3;clear hP3 hE3 hG3 p0 p1;go_wp2_with fail;go_meet;exact ⟨d,hd.out,HP3,HE3.out⟩
   case rest =>
    obtain ⟨d,hd,hP,hEx⟩:=hcut;generalize wc=Z at *;clear HP2 hE2 hE
    have hdS:NdQ 10001001 d:=by
     have h1:NdQ 1000 (offE O k):=by
      unfold offE;split
      ·exact NdQ.zero (by omega)
      ·exact NdQ.getD (fun x hx=>(HOn.out x hx).mono (by decide)) (by omega) _
     rw [hd];exact (HNd.out k).sub h1
    have hfl:=hid (fun W (hW:Ext Z W)=>ratFloor_any (hdS.smQ (by omega)) (w:=W) (HL.out.ext ((hEw.trans hEx).trans hW)));obtain ⟨p0,p1,_,_⟩:=rq_cell hP.out;have hqd:qE O (fun j=>l.getD j 0) k=d.floor:=by rw [hd]; rfl
    obtain ⟨f,hf⟩ : ∃ f,f=d.floor:=⟨_,rfl⟩
    rw [← hf] at hfl hqd;have Hqd:=hid hqd;have hz:=itoa_eq_zero f;clear hd hdS hf hqd
    by_cases hf0:f=0
    ·rw [decide_eq_true hf0] at hz
     have HQ2:=hid (show ∀ j,j<k+1→qE O (fun j=>l.getD j 0) j=0 from fun j hj=>by
      rcases Nat.lt_or_ge j k with h1 | h1
      ·exact hQ.out j h1
      ·obtain rfl:j=k:=by omega
       rw [Hqd.out]; exact hf0)
     clear hf0 hQ;go_wp2_with fail;refine (hfl.out _ (Ext.refl Z)).mono ?_;rintro e Z2 ⟨rfl,hE3⟩;have hEn:=hEx.trans hE3;clear hfl p0 p1 hP hEx hE3;go_wp2_with fail;go_roundw
     case rel=>exact ⟨k+1,by omega,by go_num,HQ2,hEn⟩
     case measure=>simp [intOf] <;> omega
    ·rw [decide_eq_false hf0] at hz;have hne:=hid (show ¬ ∀ j,j<n→qE O (fun j=>l.getD j 0) j=0 from fun hh=>hf0 (by rw [← Hqd.out]; exact hh k hkn));clear hf0 hQ;go_wp2_with fail;refine (hfl.out _ (Ext.refl Z)).mono ?_;rintro e Z2 ⟨rfl,hE3⟩;have hres:=hid (show HaPost w n M O x (.returned (.tuple #[.bool false,.int .i64 0])) Z2 from ⟨false,_,rfl,HCo.out,⟨fun h=>absurd h (by decide),fun h=>absurd h hne.out⟩,(hEw.trans hEx).trans hE3⟩);clear hfl p0 p1 hP hEx hE3 HCo hne;go_wp2_with fail;go_ret2;exact hres.out
  ·obtain rfl:n=k:=by omega
   have hres:=hid (show HaPost w n M O x (.returned (.tuple #[.bool true,.int .i64 0])) V from ⟨true,_,rfl,HCo.out,⟨fun _=>hQ.out,fun _=>rfl⟩,hEw.trans hE⟩);clear hQ HCo;go_wp2_with fail;go_ret2;exact hres.out
theorem red_shift {n:Nat} {M:Mx} {v:List Int} (h:BkM n M v) (O:List Rat) {x y q:Nat→Int} {c d:Nat→Rat} (hc:CoV n M (fun i=>((x i:Int):Rat)) c) (hd:CoV n M (fun i=>((y i:Int):Rat)) d) (hy : ∀ i,i<n→y i=x i+sumZ (fun j=>q j*eM (bsM n M) j i) n) :
  ∀ i,i<n→redV n M O y d i=redV n M O x c i:=fun i hi=>by
 have h1:CoV n M (fun i=>((y i:Int):Rat)) (fun j=>c j+((q j:Int):Rat)) :=
  (hc.add (CoV.self n M q)).congr (fun i hi=>by rw [hy i hi,Rat.intCast_add]) (fun _ _=>rfl)
 have h2:=h.uniq hd h1
 have h3 : ∀ j,j<n→qE O d j=qE O c j+q j:=fun j hj=>by
  rw [← qE_add O c q j];unfold qE;rw [h2 j hj]
 unfold redV
 have h4:sumZ (fun j=>qE O d j*eM (bsM n M) j i) n=sumZ (fun j=>qE O c j*eM (bsM n M) j i) n+sumZ (fun j=>q j*eM (bsM n M) j i) n:=by
  rw [← sumZ_add];exact sumZ_congr fun j hj=>by rw [h3 j hj,Int.add_mul]
 rw [h4,hy i hi];omega
theorem rdL_shift {n:Nat} {M:Mx} {v:List Int} (h:BkM n M v) (O:List Rat) {x y:List Int} {q:Nat→Int} {c d:Nat→Rat} (hc:CoV n M (fun i=>((x.getD i 0:Int):Rat)) c) (hd:CoV n M (fun i=>((y.getD i 0:Int):Rat)) d) (hy : ∀ i,i<n→y.getD i 0=x.getD i 0+sumZ (fun j=>q j*eM (bsM n M) j i) n) :
  rdL n M O y d=rdL n M O x c:=by
 refine List.ext_getElem (by simp) fun i h1 h2 => ?_
 have hi:i<n:=by simpa using h1
 have h3:=red_shift h O hc hd hy i hi;rw [← rdL_getD (O:=O) hi, ← rdL_getD (O:=O) hi,getD_get h1,getD_get h2] at h3;exact h3
theorem rdL_mz {n:Nat} {M:Mx} {v:List Int} (h:BkM n M v) {O:List Rat} (hO : ∀ j,-12≤offE O j∧offE O j≤12) {x:List Int} {c:Nat→Rat} (hc:CoV n M (fun i=>((x.getD i 0:Int):Rat)) c):mzE n (rdL n M O x c)=0:=by
 have hs:=h.small hO (x:=fun i=>x.getD i 0) hc;unfold mzE;rw [if_pos (by simp),if_pos];unfold mzS;rw [List.all_eq_true];intro z hz;unfold rdL at hz;rw [List.mem_map] at hz;obtain ⟨i,hi,rfl⟩:=hz;have:=hs i (List.mem_range.1 hi);rw [Bool.and_eq_true,decide_eq_true_eq,decide_eq_true_eq];omega
theorem rdL_has {n:Nat} {M:Mx} {v:List Int} (h:BkM n M v) {O:List Rat} {x:List Int} {c d:Nat→Rat} (hc:CoV n M (fun i=>((x.getD i 0:Int):Rat)) c) (hd:CoV n M (fun i=>(((rdL n M O x c).getD i 0:Int):Rat)) d) : ∀ j,j<n→qE O d j=0:=fun j hj=>by
 have h1:=(red_cov O (x:=fun i=>x.getD i 0) hc).congr (y:=fun i=>(((rdL n M O x c).getD i 0:Int):Rat)) (fun i hi=>by rw [rdL_getD hi]) (fun _ _=>rfl);have h2:=h.uniq hd h1 j hj;rw [← qE_red O c j];unfold qE at h2 ⊢;rw [h2]
theorem deg_dot {n:Nat} {M:Mx} {v:List Int} (h:BkM n M v) (O:List Rat) {x:List Int} {c:Nat→Rat} (hc:CoV n M (fun i=>((x.getD i 0:Int):Rat)) c) {k:Nat} (hk:sumZ (fun i=>v.getD i 0*x.getD i 0) n=k) (hkv:(k:Int)<v.getD 0 0):dotZ v (rdL n M O x c) n=k:=by
 have h1:=h.steps O (fun i=>x.getD i 0) c;have h2:=h.eqv O (x:=fun i=>x.getD i 0) hc hk
 have h3:(k:Int).fdiv (v.getD 0 0)=0:=by
  rw [Int.fdiv_eq_ediv_of_nonneg _ (by omega)];exact Int.ediv_eq_zero_of_lt (by omega) hkv
 rw [h2,h3,hk] at h1;unfold dotZ;rw [sumZ_congr (g:=fun i=>v.getD i 0*redV n M O (fun i=>x.getD i 0) c i) (fun i hi=>by rw [rdL_getD hi]),h1];omega
def yT (x:List Int) (q:Nat→Int) (n:Nat) (M:Mx) (i c:Nat):List Int:=(List.range n).map fun t=>x.getD t 0+(if t=0 then (q 0).tmod 4 else 0)+sumZ (fun j=>(q (j+1)).tmod 4*eM M j t) (if t<c then i+1 else i)
@[simp] theorem yT_length (x:List Int) (q:Nat→Int) (n:Nat) (M:Mx) (i c:Nat):(yT x q n M i c).length=n:=by simp [yT]
theorem yT_getD {x:List Int} {q:Nat→Int} {n:Nat} {M:Mx} {i c t:Nat} (h:t<n):(yT x q n M i c).getD t 0=x.getD t 0+(if t=0 then (q 0).tmod 4 else 0)+sumZ (fun j=>(q (j+1)).tmod 4*eM M j t) (if t<c then i+1 else i):=by
 unfold yT;rw [List.getD_eq_getElem?_getD,List.getElem?_map,List.getElem?_range h]; rfl
theorem getD_ext {a b:List Int} (hl:a.length=b.length) (h : ∀ t,t<a.length→a.getD t 0=b.getD t 0):a=b:=by
 refine List.ext_getElem hl fun t h1 h2 => ?_
 have:=h t h1;rwa [getD_get h1,getD_get h2] at this
theorem yT_start {x:List Int} {q:Nat→Int} {n:Nat} (M:Mx) (hx:x.length=n):x.set 0 (x.getD 0 0+(q 0).tmod 4)=yT x q n M 0 0:=by
 refine getD_ext (by simp [hx]) fun t ht => ?_
 have htn:t<n:=by simpa [hx] using ht
 rw [yT_getD htn,getD_get ht,List.getElem_set]
 by_cases e:0=t
 ·subst e; simp [sumZ]
 ·rw [if_neg e,if_neg (fun h=>e h.symm),getD_get (show t<x.length by omega)];simp [sumZ]
theorem yT_next {x:List Int} {q:Nat→Int} {n:Nat} {M:Mx} {i:Nat}:yT x q n M i n=yT x q n M (i+1) 0:=by
 refine getD_ext (by simp) fun t ht => ?_
 have htn:t<n:=by simpa using ht
 rw [yT_getD htn,yT_getD htn,if_pos htn,if_neg (by omega : ¬ t<0)]
theorem yT_step {x:List Int} {q:Nat→Int} {n:Nat} {M:Mx} {i c:Nat} (hc:c<n):(yT x q n M i c).set c ((yT x q n M i c).getD c 0+(q (i+1)).tmod 4*eM M i c)=yT x q n M i (c+1):=by
 refine getD_ext (by simp) fun t ht => ?_
 have htn:t<n:=by simpa using ht
 rw [yT_getD htn,getD_get ht,List.getElem_set]
 by_cases e:c=t
 ·subst e;rw [if_pos rfl,yT_getD hc];have h1:(if c<c then i+1 else i)=i:=if_neg (by omega);have h2:(if c<c+1 then i+1 else i)=i+1:=if_pos (by omega);rw [h1,h2];show _=_+(sumZ _ i+(q (i+1)).tmod 4*eM M i c);rw [← Int.add_assoc]
 ·rw [if_neg e, ← getD_get (show t<(yT x q n M i c).length by simpa using htn),yT_getD htn]
  have h1:(if t<c then i+1 else i)=(if t<c+1 then i+1 else i):=by
   by_cases h:t<c
   ·rw [if_pos h,if_pos (by omega)]
   ·rw [if_neg h,if_neg (by omega)]
  rw [h1]
theorem yT_end {x:List Int} {q:Nat→Int} {n:Nat} {M:Mx} (hn:n=M.length+1) {i:Nat} (hi:i<n):(yT x q n M M.length 0).getD i 0=x.getD i 0+sumZ (fun j=>(q j).tmod 4*eM (bsM n M) j i) n:=by
 have hn0:0<n:=by omega
 rw [yT_getD hi,if_neg (by omega : ¬ i<0)]
 have h1 : ∀ k,sumZ (fun j=>(q j).tmod 4*eM (bsM n M) j i) (k+1)=(if i=0 then (q 0).tmod 4 else 0)+sumZ (fun j=>(q (j+1)).tmod 4*eM M j i) k:=fun k=>by
  induction k with
  | zero =>
   show 0+(q 0).tmod 4*eM (bsM n M) 0 i=_+0;rw [bsM_zero M hn0];split <;> simp
  | succ k ih =>
   show sumZ _ (k+1)+(q (k+1)).tmod 4*eM (bsM n M) (k+1) i=_+(sumZ _ k+(q (k+1)).tmod 4*eM M k i);rw [ih,bsM_succ];omega
 have h2:sumZ (fun j=>(q j).tmod 4*eM (bsM n M) j i) n=sumZ (fun j=>(q j).tmod 4*eM (bsM n M) j i) (M.length+1):=by rw [hn]
 rw [h2,h1];omega
theorem yT_small {n:Nat} {M:Mx} {v:List Int} (h:BkM n M v) {x:List Int} {q:Nat→Int} (hx : ∀ t,-9≤x.getD t 0∧x.getD t 0≤9) {i c t:Nat} (hi:i≤2) (ht:t<n) : -100≤(yT x q n M i c).getD t 0∧(yT x q n M i c).getD t 0≤100:=by
 have h1 : ∀ j,-24≤(q (j+1)).tmod 4*eM M j t∧(q (j+1)).tmod 4*eM M j t≤24:=fun j=>by
  have a1:=Int.tmod_lt_of_pos (q (j+1)) (b:=4) (by omega);have a2:=Int.lt_tmod_of_pos (q (j+1)) (b:=4) (by omega);have b1:(-8:Int)≤eM M j t:=Rat.intCast_le_intCast.1 (h.el j t).1;have b2:eM M j t≤(8:Int):=Rat.intCast_le_intCast.1 (h.el j t).2
  have:((q (j+1)).tmod 4*eM M j t).natAbs≤3*8:=by
   rw [Int.natAbs_mul]; exact Nat.mul_le_mul (by omega) (by omega)
  omega
 have h2 : ∀ k:Nat,-(24*(k:Int))≤sumZ (fun j=>(q (j+1)).tmod 4*eM M j t) k∧sumZ (fun j=>(q (j+1)).tmod 4*eM M j t) k≤24*(k:Int):=fun k=>by
  induction k with
  | zero=>simp [sumZ]
  | succ k ih =>
   have h3:=h1 k;rw [show sumZ (fun j=>(q (j+1)).tmod 4*eM M j t) (k+1)=sumZ (fun j=>(q (j+1)).tmod 4*eM M j t) k+(q (k+1)).tmod 4*eM M k t from rfl];generalize (q (k+1)).tmod 4*eM M k t=z at *;generalize sumZ (fun j=>(q (j+1)).tmod 4*eM M j t) k=s at *;omega
 rw [yT_getD ht];have a1:=Int.tmod_lt_of_pos (q 0) (b:=4) (by omega);have a2:=Int.lt_tmod_of_pos (q 0) (b:=4) (by omega);have h3:=h2 (if t<c then i+1 else i);have h4:=hx t;have h5:(if t<c then i+1 else i)≤3:=by split <;> omega
 generalize (if t<c then i+1 else i)=k at *;split <;> omega
end Go.Proofs.YtmhfccigejcphaaGreatDoor
