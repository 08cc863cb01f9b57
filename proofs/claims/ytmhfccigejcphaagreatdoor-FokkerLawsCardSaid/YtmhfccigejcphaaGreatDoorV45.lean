/- Part 45 of the proof of the claim: contracts of the functions that it reaches, and plain laws; no condition. -/
import Derived.Test.YtmhfccigejcphaaGreatDoorV43
import Derived.Test.YtmhfccigejcphaaGreatDoorV44
import Derived.Test.YtmhfccigejcphaaGreatDoorV42
import Derived.Test.YtmhfccigejcphaaGreatDoorV25
import Derived.Test.YtmhfccigejcphaaGreatDoorV02
import Derived.Test.YtmhfccigejcphaaGreatDoorV11
import Derived.Test.YtmhfccigejcphaaGreatDoorRows
import Derived.ProofKit
import Derived.LaidMore
import Derived.OpenShut
import Derived.Stop.Joined
import Derived.Stop.LaidErr
import Derived.Lib.LaidTab
import Derived.Deep.Matrix
set_option maxRecDepth 100000
namespace Go.Proofs.YtmhfccigejcphaaGreatDoor
open Go.RowKit Go.Sort
open Lib (hid)
theorem ar4_fn {l:Nat→Int} (h : ∀ i,-128≤l i∧l i≤127):Ar4 #[.int .i8 (l 0),.int .i8 (l 1),.int .i8 (l 2),.int .i8 (l 3)] [l 0,l 1,l 2,l 3] :=
  ⟨rfl,rfl,fun j hj=>by
    rcases (show j=0∨j=1∨j=2∨j=3 by omega) with rfl | rfl | rfl | rfl <;> rfl,
   fun z hz=>by
    simp only [List.mem_cons,List.not_mem_nil,or_false] at hz
    rcases hz with rfl | rfl | rfl | rfl <;> exact h _⟩
set_option maxHeartbeats 8000000 in
theorem fklw_walk {w:World} {p:Int} {u:Nat→Nat→Int} {o l q:Nat→Int} (hp:0≤p∧p≤255) (hu : ∀ i k,-128≤u i k∧u i k≤127) (ho : ∀ i,-128≤o i∧o i≤127) (hl : ∀ i,-128≤l i∧l i≤127) (hq : ∀ i,-128≤q i∧q i≤127) (hL:Laid w) :
  Calls Tryz.prog 4 #[plv p u o,.agg #[.int .i8 (l 0),.int .i8 (l 1),.int .i8 (l 2),.int .i8 (l 3)],.agg #[.int .i8 (q 0),.int .i8 (q 1),.int .i8 (q 2)]] w fun e w'=>e = .returned (.bool true)∧Ext w w':=by
 have hmk:=hid (fun W (hW:Ext w W)=>make36_any (w:=W) hp hu ho (hL.ext hW));have hkn:=hid (fun W (hW:Ext w W)=>known36_any (w:=W) (hL.ext hW));have HL:=hid hL;have ha4:=hid (ar4_fn hl);have e1:=(Ext.refl w).alloc (.cells #[.int .u8 p,.int .i8 (u 0 0),.int .i8 (u 0 1),.int .i8 (u 0 2),.int .i8 (u 1 0),.int .i8 (u 1 1),.int .i8 (u 1 2),.int .i8 (o 0),.int .i8 (o 1)] 56);have e2:=e1.alloc (.cells #[.int .i8 (l 0),.int .i8 (l 1),.int .i8 (l 2),.int .i8 (l 3)] 57);have e3:=e2.alloc (.cells #[.int .i8 (q 0),.int .i8 (q 1),.int .i8 (q 2)] 52);have H3:=hid hq;clear hp hu ho hl hL hq
 go_enter Tryz.func4,Tryz.ntmps4
 go_upto_region 1 with fail;have b9:=box9 w p u o;have s1:(w.alloc (.cells #[.int .u8 p,.int .i8 (u 0 0),.int .i8 (u 0 1),.int .i8 (u 0 2),.int .i8 (u 1 0),.int .i8 (u 1 1),.int .i8 (u 1 2),.int .i8 (o 0),.int .i8 (o 1)] 56)).heap.size=w.heap.size+1:=by simp
 generalize w.alloc (.cells #[.int .u8 p,.int .i8 (u 0 0),.int .i8 (u 0 1),.int .i8 (u 0 2),.int .i8 (u 1 0),.int .i8 (u 1 1),.int .i8 (u 1 2),.int .i8 (o 0),.int .i8 (o 1)] _)=w1 at *;have b4:=hid (fun j (hj:j<4)=>cellA (w:=w1) (T:=57) (ha4.out.at' j hj));have e12:=(Ext.refl w1).alloc (.cells #[.int .i8 (l 0),.int .i8 (l 1),.int .i8 (l 2),.int .i8 (l 3)] 57);have s2:(w1.alloc (.cells #[.int .i8 (l 0),.int .i8 (l 1),.int .i8 (l 2),.int .i8 (l 3)] 57)).heap.size=w.heap.size+1+1:=by simp [s1]
 generalize w1.alloc (.cells #[.int .i8 (l 0),.int .i8 (l 1),.int .i8 (l 2),.int .i8 (l 3)] _)=w2 at *;have b3:=box3 w2 52 (.int .i8 (q 0)) (.int .i8 (q 1)) (.int .i8 (q 2));have e23:=(Ext.refl w2).alloc (.cells #[.int .i8 (q 0),.int .i8 (q 1),.int .i8 (q 2)] 52);generalize w2.alloc (.cells #[.int .i8 (q 0),.int .i8 (q 1),.int .i8 (q 2)] _)=w3 at *;have e13:=e12.trans e23;have p0:=e13.cell (b9 0 _ rfl);have p1:=e13.cell (b9 1 _ rfl);have p2:=e13.cell (b9 2 _ rfl);have p3:=e13.cell (b9 3 _ rfl);have p4:=e13.cell (b9 4 _ rfl);have p5:=e13.cell (b9 5 _ rfl);have p6:=e13.cell (b9 6 _ rfl);have p7:=e13.cell (b9 7 _ rfl);have p8:=e13.cell (b9 8 _ rfl);have c0:=e23.cell (b4.out 0 (by omega));have c1:=e23.cell (b4.out 1 (by omega));have c2:=e23.cell (b4.out 2 (by omega));have c3:=e23.cell (b4.out 3 (by omega));obtain ⟨d0,d1,d2⟩:=cell3 b3;rw [s1] at c0 c1 c2 c3;rw [s2] at d0 d1 d2;clear s1 s2 b9 b4 b3 e1 e2 e12 e23 e13;go_wp2_with fail;refine (hmk.out _ e3).mono ?_;rintro e X ⟨cp,cu,gm,sp,vo,f,rfl,⟨so,no,co,rfl⟩,hE1,hB⟩;have EX:Ext w X:=e3.trans hE1;replace c0:=hE1.cell c0;replace c1:=hE1.cell c1;replace c2:=hE1.cell c2;replace c3:=hE1.cell c3;replace d0:=hE1.cell d0;replace d1:=hE1.cell d1;replace d2:=hE1.cell d2;obtain ⟨n,hn⟩ : ∃ n,n=(pr36 p).length:=⟨_,rfl⟩
 obtain ⟨m,hm⟩ : ∃ m,m=n-1:=⟨_,rfl⟩
 rw [← hn, ← hm] at hB ⊢;have HB:=hid hB;have hbox:=box3 X 60 (.slice sp n cp) (.slice (some ⟨gm,0,none⟩) m cu) (.slice so no co);have eA:Ext X (X.alloc (.cells #[.slice sp n cp,.slice (some ⟨gm,0,none⟩) m cu,.slice so no co] 60)):=(Ext.refl X).alloc _;obtain ⟨a0,a1,a2⟩:=cell3 hbox;clear hn hm hB hbox hE1 hmk e3 p0 p1 p2 p3 p4 p5 p6 p7 p8;go_upto_region 2 with fail;generalize X.alloc (.cells #[.slice sp n cp,.slice (some ⟨gm,0,none⟩) m cu,.slice so no co] _)=Y at *;have EY:=EX.trans eA;go_wp2_with fail;refine (hkn.out _ EY).mono ?_;rintro e Z ⟨rfl,hEZ⟩;have EZ:=EY.trans hEZ
 cases f
 ·go_wp2_with fail;refine (hkn.out _ EZ).mono ?_;rintro e Z2 ⟨rfl,hE2⟩;go_wp2_with fail;go_ret;exact ⟨rfl,EZ.trans hE2⟩
 ·have hF:=hid ((HB.out rfl).ext (eA.trans hEZ));have EXZ:=eA.trans hEZ;replace a0:=hEZ.cell a0;replace a1:=hEZ.cell a1;replace a2:=hEZ.cell a2;replace c0:=EXZ.cell c0;replace c1:=EXZ.cell c1;replace c2:=EXZ.cell c2;replace c3:=EXZ.cell c3;replace d0:=EXZ.cell d0;replace d1:=EXZ.cell d1;replace d2:=EXZ.cell d2;have hn:=hF.out.hB.hn;have hPl:=hF.out.hPl;have hiv:=hid (interval12_any hF.out.hP (by omega) ha4.out);rw [hPl] at hiv;clear EXZ HB eA hEZ EY EX hkn;go_wp2_with fail;refine hiv.out.mono ?_;rintro e Z1 ⟨v',rfl,hv,hE1⟩;have hxl:(ivL n [l 0,l 1,l 2,l 3]).length=n:=ivL_len rfl (by omega);obtain ⟨x,hx⟩ : ∃ x,x=ivL n [l 0,l 1,l 2,l 3]:=⟨_,rfl⟩
  have Hx:=hid hx;rw [← hx] at hv hxl;have hvR:=hv.row;obtain ⟨sx,ln,cx,rfl⟩:=hv.slice
  have hln:ln=n:=by
   obtain ⟨_,_,_,_,ee,_⟩:=hvR;injection ee with ee1 ee2 ee3
   rw [ee2]; exact hxl
  subst ln;have Hxl:=hid hxl;have HPl:=hid hPl;have hn0:0<n:=by omega
  have hn3:n≤3:=by omega
  have hvR2:=hid (hvR.ext ((Ext.refl Z1).alloc (.cells #[] 3)));have EZ1:=EZ.trans hE1;replace a0:=hE1.cell a0;replace a1:=hE1.cell a1;replace a2:=hE1.cell a2;replace d0:=hE1.cell d0;replace d1:=hE1.cell d1;replace d2:=hE1.cell d2;have HA:=hid (And.intro a0 (And.intro a1 a2));have HD:=hid (And.intro d0 (And.intro d1 d2));have hF1:=hid (hF.out.ext hE1);have Hml:=hid hF.out.ml;have HB3:=hid hF.out.hB
  have Hxb:=hid (show ∀ t,-9≤x.getD t 0∧x.getD t 0≤9 from fun t=>by
   by_cases ht:t<x.length
   ·rw [getD_get ht]; exact ivL_ent n [l 0,l 1,l 2,l 3] _ (by rw [← hx]; exact List.getElem_mem _)
   ·rw [List.getD_eq_getElem?_getD,List.getElem?_eq_none (by omega)]; show (-9:Int)≤0∧(0:Int)≤9; omega)
  obtain ⟨M,hMq⟩ : ∃ M,M=unM u n m:=⟨_,rfl⟩
  obtain ⟨O,hOq⟩ : ∃ O,O=ofL o m:=⟨_,rfl⟩
  obtain ⟨P,hPq⟩ : ∃ P,P=pr36 p:=⟨_,rfl⟩
  rw [← hMq] at Hml HB3;rw [← hMq, ← hOq, ← hPq] at hF1;obtain ⟨vl,hvq⟩ : ∃ vl,vl=valL n M:=⟨_,rfl⟩
  rw [← hvq] at hF1 HB3;obtain ⟨gb',go',hsu',hrow'⟩:=hF1.out.hM.elZ Hml.out HB3.out.rect (by omega);have Hmn:=hid (show m+1=n by have:=HB3.out.len; have:=Hml.out; omega);have Hm2:=hid (show m≤2 by have:=Hmn.out; omega);have hmp:0<m:=by have:=HB3.out.len; have:=Hml.out; omega
  have hsu2:=hsu' hmp;injection hsu2 with hsu3
  injection hsu3 with hsu4 hsu5
  subst hsu4 hsu5;have Hrow:=hid hrow';have HMb:=hid (fun i j=>(⟨Rat.intCast_le_intCast.1 (HB3.out.el i j).1,Rat.intCast_le_intCast.1 (HB3.out.el i j).2⟩:(-8:Int)≤eM M i j∧eM M i j≤8))
  have Hmx:=hid (show mzE n x=0 by
   unfold mzE;rw [if_pos hxl,if_pos];unfold mzS;rw [List.all_eq_true];intro z hz;obtain ⟨t,ht,rfl⟩:=List.getElem_of_mem hz;have:=Hxb.out t;rw [getD_get ht] at this;rw [Bool.and_eq_true,decide_eq_true_eq,decide_eq_true_eq]
   omega)
  have Hmy:=hid (show mzE n (yT x q n M m 0)=0 by
   unfold mzE;rw [if_pos (by simp),if_pos];unfold mzS;rw [List.all_eq_true];intro z hz;obtain ⟨t,ht,rfl⟩:=List.getElem_of_mem hz;have htn:t<n:=by simpa using ht
   have:=yT_small (q:=q) (i:=m) (c:=0) HB3.out Hxb.out Hm2.out htn;rw [getD_get ht] at this;rw [Bool.and_eq_true,decide_eq_true_eq,decide_eq_true_eq]
   omega)
  clear hMq hOq hPq hvq hrow' hsu' c0 c1 c2 c3 hiv EZ hx hxl hPl hn;go_wp2_with (at_builtin; refine app_rowP rfl _ _ 30 Tryz.underlying30 rfl (B:=Z1.heap.size) rfl (row_empty (heap_new Z1 (.cells #[] 3)) (Nat.le_refl _)) rfl hvR2.out (by omega) (by simp; omega) (by simp) ?_; intro g cap w5 hO5 hB5 hG5 ho5)
  simp only [List.length_nil,Nat.zero_add,List.nil_append] at hO5 ⊢;have HY:=hid (row_ownV hO5 Hxl.out);have hE5:Ext Z1 w5:=Below.trans ((Ext.refl Z1).alloc (.cells #[] 3)) hB5;have hg1:=HY.out.lt.1;replace d0:=hE5.cell d0;replace d1:=hE5.cell d1;replace d2:=hE5.cell d2;replace a0:=hE5.cell a0;replace a1:=hE5.cell a1;replace a2:=hE5.cell a2;have E5:=EZ1.trans hE5;clear hO5 hB5 hG5 ho5 hvR2;obtain ⟨x0,hx0⟩ : ∃ x0,x0=x.getD 0 0:=⟨_,rfl⟩
  have y0:w5.cell? ⟨g,0,none⟩=some (.int .i64 x0):=by
   have h1:0<(is x).length:=by rw [is_length,Hxl.out]; exact hn0
   rw [HY.out.cell (j:=0) h1,hx0,getD_get (show 0<x.length by rw [Hxl.out]; exact hn0)];simp [is]
  have hx0b : -9≤x0∧x0≤9:=by
   rw [hx0,getD_get (show 0<x.length by rw [Hxl.out]; exact hn0)];exact ivL_ent n [l 0,l 1,l 2,l 3] _ (by rw [← Hx.out]; exact List.getElem_mem _)
  have hq0:=H3.out 0;obtain ⟨q0,hq0e⟩ : ∃ q0,q0=q 0:=⟨_,rfl⟩
  have Hq0:=hid hq0e;have Hx0:=hid hx0;rw [← hq0e] at d0 hq0;have r1:=Int.tmod_lt_of_pos q0 (b:=4) (by omega);have r2:=Int.lt_tmod_of_pos q0 (b:=4) (by omega);clear hx0 hq0e;go_wp2_with fail;have z0:Ext w5 w5.drew:=(Ext.refl w5).drew;refine wp_region_held_tail (S:=fun W=>Ext w5 W) 8 (by kernel_rfl) (by simp) ?_;intro inv;generalize w5.drew=w5d at *;have hn0i:(0:Int)<(n:Int):=by omega
  have wq:IntKind.i64.wrap q0=q0:=IntWalk.i64_in _ (by omega);have wx:IntKind.i64.wrap (x0+q0.tmod 4)=x0+q0.tmod 4:=IntWalk.i64_in _ (by omega);refine tkS (i:=0) (v:=slv g n cap) rfl z0 inv ?_;intro inv;go_simp;refine tkS (i:=1) (v := .pointer (some ⟨g,0,none⟩)) rfl z0 inv ?_;intro inv;go_simp;refine tkA (i:=2) (v := .int .i64 x0) rfl (.inl ⟨by rfl,fun W hW=>by have k0:=hW.cell y0; go_simp⟩) z0 inv ?_;intro inv;go_simp;refine tkS (i:=3) (v := .pointer (some ⟨w.heap.size+1+1,0,none⟩)) rfl z0 inv ?_;intro inv;go_simp;refine tkA (i:=4) (v := .int .i8 q0) rfl (.inl ⟨by rfl,fun W hW=>by have k0:=hW.cell d0; go_simp⟩) z0 inv ?_;intro inv;go_simp;refine tkS (i:=5) (v := .int .i64 q0) rfl z0 inv ?_;intro inv;go_simp;refine tkS (i:=6) (v := .int .i64 (q0.tmod 4)) rfl z0 inv ?_;intro inv;go_simp;refine tkS (i:=7) (v := .int .i64 (x0+q0.tmod 4)) rfl z0 inv ?_;intro inv;go_simp;refine wpAnyLH_end (by kernel_rfl) ?_;have hY:=HY.out.ext z0;have f0:=hY.frozen 0;have y0:=z0.cell y0;obtain ⟨hY2,hG2⟩:=hY.set 0 (.int .i64 (x0+q0.tmod 4))
  have HY3:=hid (show OwnV 3 Z1.heap.size (w5d.setCell ⟨g,0,none⟩ (.int .i64 (x0+q0.tmod 4))) g cap (is (yT x q n M 0 0)) from by
   rw [← yT_start M Hxl.out,is_set, ← Hx0.out, ← Hq0.out]; exact hY2)
  have HE3:=hid (ext_trans_grown (hE5.trans z0) hG2 hg1);have hm2:=Hm2.out;clear hY2 hG2 hY z0 d0 d1 d2 a0 a1 a2;go_wp2_with fail
  go_loopw [11] (fun iv wr => ∃ i:Nat,i≤m∧iv = .int .i64 i∧Hid (OwnV 3 Z1.heap.size wr g cap (is (yT x q n M i 0)))∧Ext Z1 wr) (fun iv _=>m-(intOf iv).toNat)
  case atStart=>exact ⟨0,by omega,by go_num,HY3,HE3.out⟩
  case round =>
   clear HY3 HE3;obtain ⟨i,hi,rfl,hY,hE⟩:=hrel;generalize wr=X1 at *;have a1:=hE.cell HA.out.2.1
   by_cases him:i<m
   ·have hii:(i:Int)<(m:Int):=by omega
    go_wp2_with fail
    go_loopw [12] (fun cv wr => ∃ c:Nat,c≤n∧cv = .int .i64 c∧Hid (OwnV 3 Z1.heap.size wr g cap (is (yT x q n M i c)))∧Ext Z1 wr) (fun cv _=>n-(intOf cv).toNat)
    case atStart=>exact ⟨0,by omega,by go_num,hY,hE⟩
    case round =>
     clear hY hE a1;obtain ⟨c,hc,rfl,hY,hE⟩:=hrel;generalize wr=U at *
     by_cases hcn:c<n
     ·have hci:(c:Int)<(n:Int):=by omega
      obtain ⟨yc,hyc⟩ : ∃ yc,yc=(yT x q n M i c).getD c 0:=⟨_,rfl⟩
      have k0:U.cell? ⟨g,c,none⟩=some (.int .i64 yc):=by
       rw [hY.out.cell (j:=c) (by simpa using hcn),hyc,getD_get (by simpa using hcn)]; simp [is]
      obtain ⟨i1,hi1⟩ : ∃ i1,i1=i+1:=⟨_,rfl⟩
      obtain ⟨qi,hqi⟩ : ∃ qi,qi=q i1:=⟨_,rfl⟩
      have kq:U.cell? ⟨w.heap.size+1+1,i1,none⟩=some (.int .i8 qi):=by
       rw [hqi,hi1]
       rcases (show i=0∨i=1 by omega) with rfl | rfl
       ·exact hE.cell HD.out.2.1
       ·exact hE.cell HD.out.2.2
      have a1:=hE.cell HA.out.2.1;obtain ⟨gr,or,cr,r1,r2⟩:=Hrow.out i him;rw [Nat.zero_add] at r1;have r1:=hE.cell r1;have r3:=hE.cell (r2 c hcn);obtain ⟨z,hz⟩ : ∃ z,z=eM M i c:=⟨_,rfl⟩
      rw [← hz] at r3;have hzb:(-8:Int)≤z∧z≤8:=by rw [hz]; exact HMb.out i c
      have hyb : -100≤yc∧yc≤100:=by rw [hyc]; exact yT_small HB3.out Hxb.out (by omega) hcn
      have hqb:=H3.out i1;rw [← hqi] at hqb;have t1:=Int.tmod_lt_of_pos qi (b:=4) (by omega);have t2:=Int.lt_tmod_of_pos qi (b:=4) (by omega)
      have hst:=hid (show (is (yT x q n M i c)).set c (.int .i64 (yc+qi.tmod 4*z))=is (yT x q n M i (c+1)) by
       rw [hyc,hqi,hi1,hz, ← is_set,yT_step hcn])
      have hpb:(qi.tmod 4*z).natAbs≤3*8:=by rw [Int.natAbs_mul]; exact Nat.mul_le_mul (by omega) (by omega)
      have hi1i:(i:Int)+1=(i1:Int):=by omega
      have hi13:i1<3:=by omega
      have hi13i:(i1:Int)<3:=by omega
      have w1:IntKind.i64.wrap ((i:Int)+1)=(i1:Int):=by rw [hi1i]; exact IntWalk.i64_in _ (by omega)
      have w2:IntKind.i64.wrap qi=qi:=IntWalk.i64_in _ (by omega);have w3:IntKind.i64.wrap (qi.tmod 4)=qi.tmod 4:=IntWalk.i64_in _ (by omega);have w4:IntKind.i64.wrap (qi.tmod 4*z)=qi.tmod 4*z:=IntWalk.i64_in _ (by omega);have w5':IntKind.i64.wrap (yc+qi.tmod 4*z)=yc+qi.tmod 4*z:=IntWalk.i64_in _ (by omega);clear hyc hqi hz hi1 r2 hqb hi1i;go_wp2_with fail;have d0:Ext U U.drew:=(Ext.refl U).drew;refine wp_region_held_tail (S:=fun W=>Ext U W) 20 (by kernel_rfl) (by simp) ?_;intro inv;generalize U.drew=Ud at *;refine tkS (i:=0) (v:=slv g n cap) rfl d0 inv ?_;intro inv;go_simp;refine tkS (i:=1) (v := .int .i64 c) rfl d0 inv ?_;intro inv;go_simp;refine tkS (i:=2) (v := .pointer (some ⟨g,c,none⟩)) rfl d0 inv ?_;intro inv;go_simp;refine tkA (i:=3) (v := .int .i64 yc) rfl (.inl ⟨by rfl,fun W hW=>by have y0:=hW.cell k0; go_simp⟩) d0 inv ?_;intro inv;go_simp;refine tkS (i:=4) (v := .int .i64 i) rfl d0 inv ?_;intro inv;go_simp;refine tkS (i:=5) (v := .int .i64 i1) rfl d0 inv ?_;intro inv;go_simp;refine tkS (i:=6) (v := .pointer (some ⟨w.heap.size+1+1,i1,none⟩)) rfl d0 inv ?_;intro inv;go_simp;refine tkA (i:=7) (v := .int .i8 qi) rfl (.inl ⟨by rfl,fun W hW=>by have y0:=hW.cell kq; go_simp⟩) d0 inv ?_;intro inv;go_simp;refine tkS (i:=8) (v := .int .i64 qi) rfl d0 inv ?_;intro inv;go_simp;refine tkS (i:=9) (v := .int .i64 (qi.tmod 4)) rfl d0 inv ?_;intro inv;go_simp;refine tkS (i:=10) (v := .pointer (some ⟨X.heap.size,1,none⟩)) rfl d0 inv ?_;intro inv;go_simp
      refine tkA (i:=11) (v := .slice (some ⟨gm,0,none⟩) m cu) rfl (.inl ⟨by rfl,fun W hW=>by have y0:=hW.cell a1; go_simp⟩) d0 inv ?_;intro inv;go_simp;refine tkS (i:=12) (v := .int .i64 i) rfl d0 inv ?_;intro inv;go_simp;refine tkS (i:=13) (v := .pointer (some ⟨gm,i,none⟩)) rfl d0 inv ?_;intro inv;go_simp;refine tkA (i:=14) (v := .slice (some ⟨gr,or,none⟩) n cr) rfl (.inl ⟨by rfl,fun W hW=>by have y0:=hW.cell r1; go_simp⟩) d0 inv ?_;intro inv;go_simp;refine tkS (i:=15) (v := .int .i64 c) rfl d0 inv ?_;intro inv;go_simp;refine tkS (i:=16) (v := .pointer (some ⟨gr,or+c,none⟩)) rfl d0 inv ?_;intro inv;go_simp;refine tkA (i:=17) (v := .int .i64 z) rfl (.inl ⟨by rfl,fun W hW=>by have y0:=hW.cell r3; go_simp⟩) d0 inv ?_;intro inv;go_simp;refine tkS (i:=18) (v := .int .i64 (qi.tmod 4*z)) rfl d0 inv ?_;intro inv;go_simp;refine tkS (i:=19) (v := .int .i64 (yc+qi.tmod 4*z)) rfl d0 inv ?_;intro inv;go_simp;refine wpAnyLH_end (by kernel_rfl) ?_;have f0:=(hY.out.ext d0).frozen c;have kc:=d0.cell k0;obtain ⟨s1,g1⟩:=(hY.out.ext d0).set c (.int .i64 (yc+qi.tmod 4*z));rw [hst.out] at s1;have HS:=hid s1;have HE:=hid (ext_trans_grown (hE.trans d0) g1 hY.out.lt.1);clear s1 g1 hY hE r1 r3 kq;go_wp2_with fail;go_roundw
      case rel=>exact ⟨c+1,by omega,by go_num,HS,HE.out⟩
      case measure=>simp [intOf] <;> omega
     ·obtain rfl:n=c:=by omega
      rw [yT_next] at hY;go_wp2_with fail;go_roundw
      case rel=>exact ⟨i+1,by omega,by go_num,hY,hE⟩
      case measure=>simp [intOf] <;> omega
   ·obtain rfl:m=i:=by omega
    have HYz:=hY;have hyR:=hid (show RowR X1 (slv g n cap) (yT x q n M m 0) from by have:=hY.out.rowR; rwa [yT_length] at this);have EX1:=EZ1.trans hE;have HLx:=hid (HL.out.ext EX1);have hFx:=hid (hF1.out.ext hE);have hR1:=hid (Reduce_ok hFx.out (hvR.ext hE) Hmx.out HLx.out);have a0:=hE.cell HA.out.1;have a2:=hE.cell HA.out.2.2;clear hY HYz;go_wp2_with fail;refine hR1.out.mono ?_;rintro e X2 ⟨uv,c1,rfl,hC1,hu,hE2⟩;have EX2:=EX1.trans hE2;have hF2:=hid (hFx.out.ext hE2);have hy2:=hid (hyR.out.ext hE2);have hR2:=hid (Reduce_ok hF2.out hy2.out Hmy.out (HL.out.ext EX2));have Hu:=hid hu;have HC1:=hid hC1;replace a0:=hE2.cell a0;replace a1:=hE2.cell a1;replace a2:=hE2.cell a2;clear hFx hyR hR1 hu hC1;go_wp2_with fail;refine hR2.out.mono ?_;rintro e X3 ⟨vv,c2,rfl,hC2,hv,hE3⟩;have EX3:=EX2.trans hE3;have hF3:=hid (hF2.out.ext hE3);have Hv:=hid hv;have HC2:=hid hC2;have Hu3:=hid (Hu.out.ext hE3);replace a0:=hE3.cell a0;replace a1:=hE3.cell a1;replace a2:=hE3.cell a2;clear hF2 hy2 hR2 hv hC2;go_wp2_with fail;refine (val_ok hF3.out (HL.out.ext EX3)).mono ?_;rintro e X4 ⟨ov,rfl,ho,hE4⟩;have EX4:=EX3.trans hE4;have hF4:=hid (hF3.out.ext hE4);have Ho:=hid ho;replace a0:=hE4.cell a0;replace a1:=hE4.cell a1;replace a2:=hE4.cell a2;clear hF3 ho;go_wp2_with fail;refine (degrees_ok hF4.out (HL.out.ext EX4)).mono ?_;rintro e X5 ⟨dv,L,rfl,hLl,hDg,hMo,hE5'⟩;have EX5:=EX4.trans hE5';have hF5:=hid (hF4.out.ext hE5');have Ho5:=hid (Ho.out.ext hE5');have E35:=hE4.trans hE5'
    have Hsame:=hid (Same_any (w:=X5) (Hu3.out.row.ext E35) (Hv.out.row.ext E35) (by simp; omega));have a1':=hE5'.cell a1;have hEq:rdL n M O x c1=rdL n M O (yT x q n M m 0) c2:=(rdL_shift HB3.out O (q:=fun j=>(q j).tmod 4) HC1.out HC2.out (fun i hi=>by rw [Hml.out]; exact yT_end (by have:=Hmn.out; have:=Hml.out; omega) hi)).symm;rw [decide_eq_true hEq] at Hsame;replace a0:=hE5'.cell a0;replace a2:=hE5'.cell a2;obtain ⟨sd,gd,od,cd,vd,rfl,hcd,hvd,hSd,hrd⟩:=hMo.mat;obtain ⟨N,hN⟩ : ∃ N,N=L.length:=⟨_,rfl⟩
    have HN:=hid hN;have HNv:=hid (show N=(vl.getD 0 0).toNat by rw [hN,hLl]);have hNb:N≤100:=by have:=HNv.out; have:=HB3.out.le; omega
    rw [← hN] at hcd ⊢;obtain ⟨so',go',oo',co',rfl,hco',hSo'⟩:=Ho5.out;have hvl:=HB3.out.vlen;have HoR:=hid (show RowR X5 (.slice so' n co') vl by have h:=Ho5.out; rw [hvl] at h; exact h);rw [hvl] at hco' ⊢;have HDg:=hid hDg;have HSd:=hid hSd;have Hvd:=hid hvd;have Hrd:=hid hrd;have Hvl:=hid hvl
    have Hvb:=hid (show ∀ z∈vl,z.natAbs≤1000000 from fun z hz=>by
     obtain ⟨i,hi,rfl⟩:=List.getElem_of_mem hz;have:=HB3.out.vb i
     rw [getD_get hi] at this; omega)
    clear hDg hMo hSd hvd hrd hvl hSo' hN hLl hF4 Hu3 Hu Hv Ho Ho5 HC1 HC2 hEq EX1 EX2 EX3 EX4 hE hE2 hE3 hE4 hE5' E35 a1;go_wp2_with fail;refine Hsame.out.mono ?_;rintro e X6 ⟨rfl,hE6⟩;clear Hsame;go_wp2_with fail
    go_loopw [21] (fun kv wr => ∃ k:Nat,k≤N∧kv = .int .i64 k∧Ext X5 wr) (fun kv _=>N-(intOf kv).toNat)
    case atStart=>exact ⟨0,by omega,by go_num,hE6⟩
    case round =>
     obtain ⟨k,hk,rfl,hE⟩:=hrel;generalize wr=V at *
     by_cases hkN:k<N
     ·have hki:(k:Int)<(N:Int):=by omega
      have hkL:k<L.length:=by rw [← HN.out]; exact hkN
      have hkv:k<vd.length:=by rw [Hvd.out]; exact hkL
      obtain ⟨X',c',hXl,hC,hkk,hLk⟩:=HDg.out k hkL;have hrow:=Hrd.out k hkL hkv;obtain ⟨r,hr⟩ : ∃ r,r=L[k]:=⟨_,rfl⟩
      rw [← hr] at hrow hLk;have hrl:r.length=n:=by rw [hLk]; exact rdL_length _ _ _ _ _
      obtain ⟨sr,gr,or,cr,er,hcr,hSr⟩:=hrow;rw [hrl] at hcr er;have hrV:=hid (show RowR V (.slice sr n cr) r by rw [← hrl]; exact RowR.ext ⟨sr,gr,or,cr,rfl,by rw [hrl]; exact hcr,hSr⟩ hE);have x1:=hE.cell (HSd.out.cell k (.slice sr n cr) (by rw [List.getElem?_eq_getElem hkv,er]));obtain rfl:=HSd.out.addr (by omega);have hEV:=EX5.trans hE;have b0:=hE.cell a0;have b1:=hE.cell a1';have b2:=hE.cell a2;have hmz:=hid (show mzE n r=0 by rw [hLk]; exact rdL_mz HB3.out hF5.out.hOb hC)
      have hdk:=hid (show dotZ vl r vl.length=k by
       rw [Hvl.out,hLk]
       exact deg_dot HB3.out O hC hkk (by have:=HNv.out; have:=HB3.out.pos; omega))
      have hHa:=hid (fun W (hW:Ext V W)=>Has_ok (hF5.out.ext (hE.trans hW)) (hrV.out.ext hW) hmz.out (HL.out.ext (hEV.trans hW)));have hyes:=hid (show ∀ d:Nat→Rat,CoV n M (fun i=>((r.getD i 0:Int):Rat)) d → ∀ j,j<n→qE O d j=0 from fun d hd=>rdL_has HB3.out hC (by rw [← hLk]; exact hd));have hdo:=hid (fun W (hW:Ext V W)=>dot36_any (HoR.out.ext (hE.trans hW)) (hrV.out.ext hW) (by rw [hrl,Hvl.out]) (by rw [Hvl.out]; omega) Hvb.out (fun z hz=>by have:=(mzE_zero hmz.out).2 z hz; omega));rw [hdk.out] at hdo;clear hr hLk hC hkk hXl hSr er hkL hkv;go_wp2_with fail;have d0:Ext V V.drew:=(Ext.refl V).drew;refine wp_region_held_tail (S:=fun W=>Ext V W) 10 (by kernel_rfl) (by simp) ?_;intro inv;generalize V.drew=Vd at *;refine tkA (i:=0) (v:=bkv n cp m cu gm sp (.slice so no co)) rfl (.inl ⟨by rfl,fun W hW=>by have y0:=hW.cell b0; have y1:=hW.cell b1; have y2:=hW.cell b2; go_simp⟩) d0 inv ?_;intro inv;go_simp;refine tkS (i:=1) (v := .slice (some ⟨gd,od,none⟩) N cd) rfl d0 inv ?_;intro inv;go_simp;refine tkS (i:=2) (v := .int .i64 k) rfl d0 inv ?_;intro inv;go_simp;refine tkS (i:=3) (v := .pointer (some ⟨gd,od+k,none⟩)) rfl d0 inv ?_;intro inv;go_simp;refine tkA (i:=4) (v := .slice sr n cr) rfl (.inl ⟨by rfl,fun W hW=>by have y0:=hW.cell x1; go_simp⟩) d0 inv ?_;intro inv;go_simp;refine wpAnyLH_oneI (i:=5) rfl (by kernel_rfl) inv (fun inv K0 hK0 => ?_);go_simp;refine (hHa.out _ d0).mono ?_;rintro e V3 ⟨bv,d,rfl,hCd,hbv,hGc⟩;obtain rfl:bv=true:=hbv.2 (hyes.out d hCd);have d1:=d0.trans hGc
      refine hK0 _ _ d1 ?_;clear hK0 hCd hbv hGc;refine tkS (i:=6) (v := .tuple #[.bool true,.int .i64 0]) rfl d1 inv ?_;intro inv;go_simp;refine tkS (i:=7) (v := .bool true) rfl d1 inv ?_;intro inv;go_simp;refine wpAnyLH_twoII (i:=8) (j:=9) rfl rfl (by kernel_rfl) inv (fun inv K1 hK1 => ?_) (fun inv K1 hK1 => ?_)
      ·skip
       go_simp;refine hK1 _ _ d1 ?_;clear hK1;refine wpAnyLH_oneI (i:=9) rfl (by kernel_rfl) inv (fun inv K1 hK1 => ?_);go_simp;refine hK1 _ _ d1 ?_;clear hK1;refine wpAnyLH_end (by kernel_rfl) ?_;have x1:=d1.cell x1;have hEn:=hE.trans d1;clear hHa hyes b0 b1 b2;go_wp2_with fail;refine (hdo.out _ d1).mono ?_;rintro e V4 ⟨rfl,hE4⟩;have hEn4:=hEn.trans hE4;clear hdo d1 hEn hE4 x1;go_wp2_with fail;go_roundw
       case rel=>exact ⟨k+1,by omega,by go_num,hEn4⟩
       case measure=>simp [intOf] <;> omega
      ·skip
       go_simp;refine hK1 _ _ d1 ?_;clear hK1;refine wpAnyLH_oneI (i:=8) rfl (by kernel_rfl) inv (fun inv K1 hK1 => ?_);go_simp;refine hK1 _ _ d1 ?_;clear hK1;refine wpAnyLH_end (by kernel_rfl) ?_;have x1:=d1.cell x1;have hEn:=hE.trans d1;clear hHa hyes b0 b1 b2;go_wp2_with fail;refine (hdo.out _ d1).mono ?_;rintro e V4 ⟨rfl,hE4⟩;have hEn4:=hEn.trans hE4;clear hdo d1 hEn hE4 x1;go_wp2_with fail;go_roundw
       case rel=>exact ⟨k+1,by omega,by go_num,hEn4⟩
       case measure=>simp [intOf] <;> omega
     ·obtain rfl:N=k:=by omega
      have hEf:=EX5.trans hE;go_wp2_with fail;go_ret;exact ⟨rfl,hEf⟩
def fn4 (a b c d:Int):Nat→Int
 | 0=>a
 | 1=>b
 | 2=>c
 | _=>d
theorem fn4_b {a b c d:Int} (ha : -128≤a∧a≤127) (hb : -128≤b∧b≤127) (hc : -128≤c∧c≤127) (hd : -128≤d∧d≤127) : ∀ i,-128≤fn4 a b c d i∧fn4 a b c d i≤127
 | 0=>ha
 | 1=>hb
 | 2=>hc
 | _+3=>hd
end Go.Proofs.YtmhfccigejcphaaGreatDoor
namespace Go.Proofs.YtmhfccigejcphaaGreatDoor
open Go.ChangeShapes Go.WideShapes Go.ChangeAt Go.WideMaps Go.WideElems Go.RowKit Go.Deep
theorem fr_own:ownKnob Tryz.prog.godebug=none:=by kernel_rfl
theorem fr_laidOut:laidOutB Tryz.prog=true:=by kernel_rfl
theorem fr_pow : Tryz.prog.globalNamed "internal/strconv.uint64pow10" = some 2 := by kernel_rfl
theorem fr_powT:(Tryz.prog.globals[2]?).map (·.type)=some 353:=by kernel_rfl
theorem fr_rng : Tryz.prog.globalNamed "strconv.ErrRange" = some 1 := by kernel_rfl
theorem fr_rngT:(Tryz.prog.globals[1]?).map (·.type)=some 182:=by kernel_rfl
theorem fr_c20:Tryz.prog.cellsOf 353=20:=by kernel_rfl
theorem fr_cu:Tryz.prog.cellsOf 213=1:=by kernel_rfl
theorem fr_cE:Tryz.prog.cellsOf 350=1:=by kernel_rfl
theorem fr_cS:Tryz.prog.cellsOf 9=1:=by kernel_rfl
theorem fr_star : "*" ++ "errors.errorString" = "*errors.errorString" := by decide
theorem fr_ptr (u : TypeId) (h : Tryz.prog.typeName? 3 u = some "*errors.errorString") : u = 348 :=
 typeName_ptr_named (nm := "errors.errorString") (by rw [fr_star]; kernel_rfl) (by kernel_rfl) (by decide) u (by rw [fr_star]; exact h)
abbrev fr_list : List (String × DataW Unit) := [("math/bits.deBruijn32tab", Rows.laid_math_bits_deBruijn32tab), ("math/bits.deBruijn64tab", Rows.laid_math_bits_deBruijn64tab), ("internal/strconv.uint64pow10", Rows.laid_internal_strconv_uint64pow10), ("strconv.ErrRange", Rows.laid_strconv_ErrRange), ("strconv.ErrSyntax", Rows.laid_strconv_ErrSyntax)]
theorem fr_tab:(Rows.laid_internal_strconv_uint64pow10:DataW Unit)=Lib.tabData .u64 Lib.pow10Tab:=by kernel_rfl
theorem laid_of {W:World} (h:laidMetH Tryz.prog fr_list W):Laid W:=by
 rw [MakeChecks.laidMetH_plain _ _ _ (by kernel_rfl)] at h;have h3:=h.tail.tail;rw [fr_tab] at h3;refine ⟨Lib.tabIs_of_head fr_pow fr_powT Tryz.underlying353 Tryz.underlying213 fr_cu fr_c20 h3,?_⟩;obtain ⟨a,s,hv,_⟩:=laid_sentinel h3.tail fr_rng fr_rngT Tryz.underlying182 fr_ptr Tryz.underlying348 Tryz.underlying350 rfl rfl Tryz.underlying9 fr_cE fr_cS;exact ⟨_,_,hv⟩
theorem door_met (os:Os) (args:Array Value):laidMetH Tryz.prog fr_list ((World.doorLaid Tryz.prog 400 os).forCall (fun _ _=>0) ⟨#[],args,[]⟩).memory :=
 laidMetH_of_parts3 (fuel:=8) (laidMet_of_run' 8 (by kernel_rfl) (by kernel_rfl)) (by kernel_rfl) (by kernel_rfl)
theorem fr_c8:Tryz.prog.cellsOf 51=1:=by kernel_rfl
theorem take_one {l:List Value} {k:Nat} {x:Value} (h:(l.drop k).take 1=[x]):l[k]? = some x:=by
 have:=congrArg (·[0]?) h;simpa [List.getElem?_take] using this
theorem i8_bounds {n:Int} (h:(Lit.int .i8 n).wf=true) : -128≤n∧n≤127:=by
 simp only [Lit.wf,Bool.and_eq_true,decide_eq_true_eq] at h;have e1:IntKind.i8.min = -128:=by rfl
 have e2:IntKind.i8.max=127:=by rfl
 omega
theorem u8_bounds {n:Int} (h:(Lit.int .u8 n).wf=true):0≤n∧n≤255:=by
 simp only [Lit.wf,Bool.and_eq_true,decide_eq_true_eq] at h;have e1:IntKind.u8.min=0:=by rfl
 have e2:IntKind.u8.max=255:=by rfl
 omega
theorem i8_cells {H:Type} {enc:TypeId×Value→H} {W:World} {base:Nat} {sp:Nat→Bool} {held:Bool} {fuel n:Nat} {t:TypeId} {l:List Value} {x:DataW H×List MemPlace} (ht:Tryz.prog.underlying t=some (.array n 51))
  (h:DataW.trod enc Tryz.prog W base sp held fuel t l=some x) : ∀ j,j<n → ∃ z:Int,l[j]? = some (.int .i8 z) ∧ -128≤z∧z≤127:=by
 obtain ⟨xs,m,_,_,_,hxl,hx⟩:=DataW.trod_array ht h;intro j hj;have h1:=hx j hj;rw [fr_c8,Nat.mul_one,List.getElem?_eq_getElem (by omega)] at h1;obtain ⟨z,hz,_,hw⟩:=DataW.trod_int Tryz.underlying51 h1;exact ⟨z,take_one hz,i8_bounds hw⟩
theorem fr_cP36:Tryz.prog.cellsOf 56=9:=by kernel_rfl
theorem fr_c33:Tryz.prog.cellsOf 52=3:=by kernel_rfl
theorem uns_cells {H:Type} {enc:TypeId×Value→H} {W:World} {base:Nat} {sp:Nat→Bool} {held:Bool} {fuel:Nat} {l:List Value} {x:DataW H×List MemPlace}
  (h:DataW.trod enc Tryz.prog W base sp held fuel 53 l=some x) : ∀ i,i<2 → ∀ j,j<3 → ∃ z:Int,l[i*3+j]? = some (.int .i8 z) ∧ -128≤z∧z≤127:=by
 obtain ⟨xs,m,_,_,_,hxl,hx⟩:=DataW.trod_array Tryz.underlying53 h;intro i hi j hj;have h1:=hx i hi;rw [fr_c33,List.getElem?_eq_getElem (by omega)] at h1;obtain ⟨z,hz,hb⟩:=i8_cells Tryz.underlying52 h1 j hj;rw [List.getElem?_take,if_pos (by omega),List.getElem?_drop] at hz;exact ⟨z,hz,hb⟩
def iv8 (v:Option Value):Int:=match v with
 | some (.int _ z)=>if -128≤z∧z≤127 then z else 0
 | _=>0
theorem iv8_b (v:Option Value) : -128≤iv8 v∧iv8 v≤127:=by
 unfold iv8;split
 ·split <;> omega
 ·omega
theorem iv8_of {v:Option Value} {z:Int} (h:v=some (.int .i8 z)) (hb : -128≤z∧z≤127):v=some (.int .i8 (iv8 v)):=by
 subst h;have:iv8 (some (.int .i8 z))=z:=by unfold iv8; simp [hb]
 rw [this]
theorem list9 {l:List Value} {a b c d e f g h i:Value} (hl:l.length=9) (h0:l[0]? = some a) (h1:l[1]? = some b) (h2:l[2]? = some c) (h3:l[3]? = some d) (h4:l[4]? = some e) (h5:l[5]? = some f) (h6:l[6]? = some g) (h7:l[7]? = some h) (h8:l[8]? = some i):l=[a,b,c,d,e,f,g,h,i]:=by
 refine List.ext_getElem? fun n => ?_
 match n with
 | 0=>exact h0
 | 1=>exact h1
 | 2=>exact h2
 | 3=>exact h3
 | 4=>exact h4
 | 5=>exact h5
 | 6=>exact h6
 | 7=>exact h7
 | 8=>exact h8
 | n+9=>rw [List.getElem?_eq_none (by omega),List.getElem?_eq_none (by simp)]
theorem plan36_open {H:Type} {enc:TypeId×Value→H} {W:World} {base:Nat} {sp:Nat→Bool} {held:Bool} {fuel:Nat} {cs:Array Value} {x:DataW H×List MemPlace} (hs:cs.size=9)
  (h:DataW.trod enc Tryz.prog W base sp held fuel 56 cs.toList=some x) : ∃ (p:Int) (u:Nat→Nat→Int) (o:Nat→Int),Value.agg cs=plv p u o∧(0≤p∧p≤255)∧(∀ i k,-128≤u i k∧u i k≤127) ∧ ∀ i,-128≤o i∧o i≤127:=by
 obtain ⟨xs,n,_,_,_,hxl,hx⟩:=DataW.trod_struct Tryz.underlying56 h;have hx3:xs.length=3:=hxl;have h0:=hx 0 _ rfl;have h1:=hx 1 _ rfl;have h2:=hx 2 _ rfl;rw [List.getElem?_eq_getElem (by omega)] at h0 h1 h2;have h0':DataW.trod enc Tryz.prog W base sp held n 5 ((cs.toList.drop 0).take 1)=some xs[0]:=h0;have h1':DataW.trod enc Tryz.prog W base sp held n 53 ((cs.toList.drop 1).take 6)=some xs[1]:=h1;have h2':DataW.trod enc Tryz.prog W base sp held n 54 ((cs.toList.drop 7).take 2)=some xs[2]:=h2;obtain ⟨a,ha,_,wa⟩:=DataW.trod_int Tryz.underlying5 h0';have hu:=uns_cells h1';have ho:=i8_cells Tryz.underlying54 h2';have hl:cs.toList.length=9:=by simpa using hs
 have ku : ∀ i k,i<2→k<3→cs.toList[1+(i*3+k)]? = some (.int .i8 (iv8 cs.toList[1+(i*3+k)]?)):=fun i k hi hk=>by
  obtain ⟨z,hz,hb⟩:=hu i hi k hk;rw [List.getElem?_take,if_pos (by omega),List.getElem?_drop] at hz;exact iv8_of hz hb
 have ko : ∀ i,i<2→cs.toList[7+i]? = some (.int .i8 (iv8 cs.toList[7+i]?)):=fun i hi=>by
  obtain ⟨z,hz,hb⟩:=ho i hi;rw [List.getElem?_take,if_pos (by omega),List.getElem?_drop] at hz;exact iv8_of hz hb
 refine ⟨a,fun i k=>iv8 cs.toList[1+(i*3+k)]?,fun i=>iv8 cs.toList[7+i]?,?_,u8_bounds wa,fun i k=>iv8_b _,fun i=>iv8_b _⟩;have:=list9 hl (take_one ha) (ku 0 0 (by omega) (by omega)) (ku 0 1 (by omega) (by omega)) (ku 0 2 (by omega) (by omega)) (ku 1 0 (by omega) (by omega)) (ku 1 1 (by omega) (by omega)) (ku 1 2 (by omega) (by omega)) (ko 0 (by omega)) (ko 1 (by omega));have h3:=congrArg List.toArray this;rw [Array.toArray_toList] at h3;exact congrArg Value.agg h3
theorem okWide_arr {P:Program} {w:World} {r:Reach} {base:Nat} {t e:TypeId} {n:Nat} {v:Value} (ht:P.underlying t=some (.array n e)) (h:Value.okWide P w r base t v) : ∃ cs,v = .agg cs∧cs.size=P.cellsOf t:=by
 simp only [Value.okWide,ht] at h;obtain ⟨cs,h1,h2,_⟩:=h;exact ⟨cs,h1,h2⟩
end Go.Proofs.YtmhfccigejcphaaGreatDoor
