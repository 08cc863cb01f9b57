/- Part 45 of the proof of the claim: contracts of the functions that it reaches, and plain laws; no condition. -/
import Derived.Test.YtmhfccigejcphaaGreatDoorQ39
import Derived.Test.YtmhfccigejcphaaGreatDoorQ44
import Derived.Test.YtmhfccigejcphaaGreatDoorQ42
import Derived.Test.YtmhfccigejcphaaGreatDoorQ43
import Derived.Test.YtmhfccigejcphaaGreatDoorQ33
import Derived.Test.YtmhfccigejcphaaGreatDoorQ34
import Derived.Test.YtmhfccigejcphaaGreatDoorQ25
import Derived.Test.YtmhfccigejcphaaGreatDoorQ26
import Derived.Test.YtmhfccigejcphaaGreatDoorQ41
set_option maxRecDepth 100000
set_option maxHeartbeats 20000000
namespace Go.Proofs.YtmhfccigejcphaaGreatDoor
section
open Go.RowKit Go.Sort
open Lib (hid)
variable {w:World} {n cp m cu gm nx cx:Nat} {sp sx:Option Addr} {vo:Value} {P:List Int} {M:Mx} {O:List Rat} {vl x:List Int}
theorem KqO (w:World) (p:Int) (u:Nat->Nat->Int) (o:Nat->Int) : ∀j v,(#[.int .u8 p,.int .i8 (u 0 0),.int .i8 (u 0 1),.int .i8 (u 0 2),.int .i8 (u 1 0),.int .i8 (u 1 1),.int .i8 (u 1 2),.int .i8 (o 0),.int .i8 (o 1)]:Array Value)[j]? = some v->(w.alloc (.cells #[.int .u8 p,.int .i8 (u 0 0),.int .i8 (u 0 1),.int .i8 (u 0 2),.int .i8 (u 1 0),.int .i8 (u 1 1),.int .i8 (u 1 2),.int .i8 (o 0),.int .i8 (o 1)] 56)).cell? ⟨w.heap.size,j,none⟩=some v:=λj v h=>by
 have hj:j<9:=(Array.getElem?_eq_some_iff.1 h).1
 rcases (show j=0\/j=1\/j=2\/j=3\/j=4\/j=5\/j=6\/j=7\/j=8 by omega) with rfl | rfl | rfl | rfl | rfl | rfl | rfl | rfl | rfl<;>(simp at h;subst h;go_simp)
variable {w:World} {n cp m cu gm nx cx:Nat} {sp sx:Option Addr} {vo:Value} {P:List Int} {M:Mx} {O:List Rat} {vl x:List Int}
theorem KaB.from {w w0:World} {X:List Int} {e:Ending} {w':World} (h:KaB w0 n M O X e w') (hE:Ext w w0):KaB w n M O X e w':=by
 obtain ⟨v,c,he,hC,hR,hE2⟩:=h;exact ⟨v,c,he,hC,hR.mono hE.size,hE.trans hE2⟩
theorem Kj6 (h:FkB w n cp m cu gm sp vo P M O vl) (hx:KQ w (.slice sx nx cx) x) (he:mzE n x=0) (hL:Laid w) :
  Calls Tryz.prog 23 #[bkv n cp m cu gm sp vo,.slice sx nx cx] w (KaB w n M O x):=by
 obtain ⟨hxl,hxb⟩:=Kbd he;have hop:=hid (λW (hW:Ext w W)=>KbA (h.ext hW) (hx.ext hW) (hL.ext hW));have HX:=JD w 60 (.slice sp n cp) (.slice (some ⟨gm,0,none⟩) m cu) vo;have hE0:Ext w (w.alloc (.cells #[.slice sp n cp,.slice (some ⟨gm,0,none⟩) m cu,vo] 60)):=(Ext.refl w).alloc _;obtain ⟨a0,a1,a2⟩:=Zp HX;have H:=hid h;have HL:=hid hL;have Hx:=hid hx;have Hl:=hid hxl;have Hb:=hid (show ∀z∈x,-1000000000<=z/\z<=1000000000 from λz hz=>⟨by have:=(hxb z hz).1;omega,by have:=(hxb z hz).2;omega⟩);have He:=hid he;clear h hL HX hx hxl hxb he
 go_enter Tryz.func23,Tryz.ntmps23
 go_wp2_with fail;refine (hop.out _ hE0).mono ?_;rintro e W1 (⟨_,bq,vv,rfl,hO,hR,hE1⟩ | ⟨h0,_⟩);rotate_left
 ·exact absurd He.out h0
 have hEr:=hE0.trans hE1;have hf:=H.out.opened hEr hO hR;have hrd:=hid (Kbl hf.hB hf.c0 hf.c1 hf.c2 hf.hM hf.hO hf.hOl (λx hx=>(hf.hOn x hx).mono (by decide)) hf.hOb (Hx.out.ext hEr) Hl.out Hb.out (HL.out.ext hEr));clear hf hO hR hop;go_wp2_with fail;refine hrd.out.mono ?_;rintro e W2 hQ;have hq:=hid (hQ.from hEr);obtain ⟨v,c,rfl,_⟩:=hQ;go_wp2_with fail;go_ret2;exact hq.out
theorem KfP {x y:List Int} {A B:Nat} (hx : ∀i,(x.getD i 0).natAbs<=A) (hy : ∀i,(y.getD i 0).natAbs<=B) : ∀n,(Ys x y n).natAbs<=n*(A*B)
 | 0=>by simp [Ys,KE]
 | n+1=>by
  have h1:=KfP hx hy n;have h2:(x.getD n 0*y.getD n 0).natAbs<=A*B:=by rw [Int.natAbs_mul];exact Nat.mul_le_mul (hx n) (hy n)
  show (Ys x y n+x.getD n 0*y.getD n 0).natAbs<=_;rw [Nat.succ_mul];omega
theorem Kjt {x:List Int} {B:Nat} (h : ∀z∈x,-(B:Int)<=z/\z<=B) (i:Nat):(x.getD i 0).natAbs<=B:=by
 by_cases hi:i<x.length
 ·rw [Ka hi];have:=h _ (List.getElem_mem hi);omega
 ·rw [List.getD_eq_getElem?_getD,List.getElem?_eq_none (by omega)];simp
theorem dgM {d V:Int} (hV:0<V):((d.tmod V)+V).tmod V=d%V:=by
 have h1:=Int.tmod_lt_of_pos d hV;have h2:=Int.lt_tmod_of_pos d hV;rw [Int.tmod_eq_emod_of_nonneg (by omega)];have h3:=Int.mul_tdiv_add_tmod d V;have h4:d=d.tmod V+V*d.tdiv V:=by omega
 rw [Int.add_emod_right]
 conv=>rhs;rw [h4]
 rw [Int.add_mul_emod_self_left]
theorem dgD {d V:Int} (hV:0<V):(d-d%V).tdiv V=d/V:=by
 have h3:=Int.mul_ediv_add_emod d V;have h4:d-d%V=V*(d/V):=by omega
 rw [h4,Int.mul_tdiv_cancel_left _ (by omega)]
theorem Kj4 (h:FkB w n cp m cu gm sp vo P M O vl) (hx:KQ w (.slice sx nx cx) x) (he:mzE n x=0) (hL:Laid w) :
  Calls Tryz.prog 29 #[bkv n cp m cu gm sp vo,.slice sx nx cx] w λe w'=>e = .returned (.tuple #[.int .i64 (Ys vl x n%vl.getD 0 0),.int .i64 (Ys vl x n/vl.getD 0 0),.int .i64 0])/\Ext w w':=by
 obtain ⟨hxl,hxb⟩:=Kbd he;have hop:=hid (λW (hW:Ext w W)=>KbA (h.ext hW) (hx.ext hW) (hL.ext hW));have HX:=JD w 60 (.slice sp n cp) (.slice (some ⟨gm,0,none⟩) m cu) vo;have hE0:Ext w (w.alloc (.cells #[.slice sp n cp,.slice (some ⟨gm,0,none⟩) m cu,vo] 60)):=(Ext.refl w).alloc _;obtain ⟨a0,a1,a2⟩:=Zp HX;have hvl:=h.hB.vlen;have hn:=h.hB.hn;have hpos:=h.hB.pos;have hle:=h.hB.le;have Hvb:=hid h.hB.vb
 have hnx:nx=n:=by
  obtain ⟨_,_,_,_,e,_⟩:=hx;injection e with e1 e2;omega
 have Hx:=hid hx;have Hxl:=hid hxl;have Hxb:=hid hxb;have He:=hid he;obtain ⟨V,hV⟩ : ∃V,V=vl.getD 0 0:=⟨_,rfl⟩
 rw [<-hV] at hpos hle ⊢;have HV:=hid hV;have Hvl:=hid hvl;have Hn:=hid hn;have HB:=hid (KfP (x:=vl) (y:=x) (A:=128) (B:=1000) Hvb.out (Kjt hxb));subst hnx;obtain ⟨D,hD⟩ : ∃D,D=Ys vl x nx:=⟨_,rfl⟩
 have HD:=hid hD;rw [<-hD];clear h hL HX hx hxl hxb he hV hvl hn hD
 go_enter Tryz.func29,Tryz.ntmps29
 go_wp2_with fail;refine (hop.out _ hE0).mono ?_;rintro e W1 (⟨_,bq,vv,rfl,hO,hR,hE1⟩ | ⟨h0,_⟩);rotate_left
 ·exact absurd He.out h0
 have hEr:=hE0.trans hE1;obtain ⟨c0,c1,c2,c3⟩:=Kji hO;obtain ⟨sv,gv,ov,cv,rfl,hcv,hSv⟩:=hR;rw [Hvl.out] at c3 hcv;have HS:=hid hSv;obtain ⟨sx',gx,ox,cx',ex,hcx,hSx⟩:=Hx.out.ext hEr;have HSx:=hid hSx;obtain ⟨rfl,_,rfl⟩:sx=sx'/\nx=x.length/\cx=cx':=by injection ex with e1 e2 e3;exact ⟨e1,e2,e3⟩
 have hcx':=hcx;rw [Hxl.out] at hcx';have hn2:=Hn.out;have hn0:0<nx:=by omega
 have hn3:nx<=3:=by omega
 obtain rfl:=hSv.addr (by rw [Kv,Hvl.out];omega);have v0:=hSv.cell 0 (.int .i64 V) (by rw [Qh (show 0<vl.length by rw [Hvl.out];omega),HV.out,Ka (show 0<vl.length by rw [Hvl.out];omega)]);rw [Nat.add_zero] at v0;clear hO hop hSv hSx ex hcx hn2;go_wp2_with fail
 go_loopw [8,26] (λsv iv wr => ∃i:Nat,i<=nx/\iv = .int .i64 i/\sv = .int .i64 (Ys vl x i)/\Ext W1 wr) (λ_ iv _=>nx-(intOf iv).toNat)
 case atStart=>exact ⟨0,by omega,by go_num,rfl,Ext.refl _⟩
 case round =>
  obtain ⟨i,hi,rfl,rfl,hE⟩:=hrel;generalize wr=X at *
  by_cases hin:i<nx
  ·have hii:(i:Int)<(nx:Int):=by omega
   have hiv:i<vl.length:=by rw [Hvl.out];exact hin
   have hix:i<x.length:=by rw [Hxl.out];exact hin
   obtain ⟨u,hu⟩ : ∃u,u=vl[i]:=⟨_,rfl⟩
   obtain ⟨v,hv⟩ : ∃v,v=x[i]:=⟨_,rfl⟩
   have k0:=hE.cell (HS.out.cell i (.int .i64 u) (by rw [hu];exact Qh hiv));have k1:=hE.cell (HSx.out.cell i (.int .i64 v) (by rw [hv];exact Qh hix));obtain rfl:=HSx.out.addr (by rw [Kv,Hxl.out];omega);have bu:u.natAbs<=128:=by have:=Hvb.out i;rw [Ka hiv,<-hu] at this;exact this
   have bv:v.natAbs<=1000:=by have:=Hxb.out v (by rw [hv];exact List.getElem_mem hix);omega
   have m1:(u*v).natAbs<=128000:=by rw [Int.natAbs_mul];exact Nat.mul_le_mul bu bv
   have m0:=HB.out i
   have hs:Ys vl x (i+1)=Ys vl x i+u*v:=by
    show Ys vl x i+vl.getD i 0*x.getD i 0=_;rw [Ka hiv,Ka hix,hu,hv]
   have Hs:=hid hs;obtain ⟨s,hsq⟩ : ∃s,s=Ys vl x i:=⟨_,rfl⟩
   rw [<-hsq] at m0 Hs ⊢
   have m2:s.natAbs<=1000000000000000:=by
    have:i*(128*1000)<=3*(128*1000):=Nat.mul_le_mul_right _ (by omega);omega
   clear hs hu hv hix hiv m0 hsq bu bv;go_wp2_with fail;go_roundw
   case rel=>exact ⟨i+1,by omega,by go_num,by rw [Hs.out],hE⟩
   case measure=>simp [intOf]<;>omega
  ·obtain rfl:i=nx:=by omega
   have m0:=HB.out i;have hEW:=hEr.trans hE;have c3X:=hE.cell c3;have v0X:=hE.cell v0;have hDi:Ys vl x i=D:=HD.out.symm;rw [hDi] at m0 ⊢;obtain ⟨d,hd⟩ : ∃d,d=D:=⟨_,rfl⟩
   rw [<-hd] at m0 ⊢
   have md:d.natAbs<=384000:=by
    have:i*(128*1000)<=3*(128*1000):=Nat.mul_le_mul_right _ (by omega);omega
   have hV0:V≠0:=by omega
   have q1:=Int.tmod_lt_of_pos d hpos;have q2:=Int.lt_tmod_of_pos d hpos;have q3:=dgM (d:=d) hpos;have q4:=dgD (d:=d) hpos;obtain ⟨r,hr⟩ : ∃r,r=d.tmod V:=⟨_,rfl⟩
   obtain ⟨e,heq⟩ : ∃e,e=d%V:=⟨_,rfl⟩
   have e0:=Int.emod_nonneg d hV0;have e1:=Int.emod_lt_of_pos d hpos;obtain ⟨q,hq⟩ : ∃q,q=d/V:=⟨_,rfl⟩
   have hqd:=Int.mul_ediv_add_emod d V;rw [<-hr] at q1 q2 q3;have hres:=hid (show Ending.returned (.tuple #[.int .i64 e,.int .i64 q,.int .i64 0]) = .returned (.tuple #[.int .i64 (D%V),.int .i64 (D/V),.int .i64 0])/\Ext w X from ⟨by rw [heq,hq,hd],hEW⟩);rw [<-heq] at q3 q4 e0 e1 hqd;rw [<-hq] at q4 hqd
   have bq1:q.natAbs<=400000:=by
    have h1:(V*q).natAbs<=385000:=by omega
    rw [Int.natAbs_mul] at h1;have h2:1*q.natAbs<=V.natAbs*q.natAbs:=Nat.mul_le_mul_right _ (by omega);omega
   clear hDi hd m0 hq hE hEW hE1 hEr;clear hqd HB HD c0 c1 c2 a0 a1 a2;have f1:(wrap64 (d.tmod V+V)).tmod V=e:=by rw [<-hr,IntWalk.wrap64_in _ (by omega)];exact q3
   have f2:wrap64 (d-e)=d-e:=IntWalk.wrap64_in _ (by omega);have f3:wrap64 ((d-e).tdiv V)=q:=by rw [q4];exact IntWalk.wrap64_in _ (by omega)
   have f4:q<=1000000000:=by omega
   have f5 : -1000000000<=q:=by omega
   clear q1 q2 q3 q4 hr heq bq1 e0 e1 md;go_wp2_with fail
   go_ret3
   exact hres.out
variable {w:World} {n cp m cu gm nx cx:Nat} {sp sx:Option Addr} {vo:Value} {P:List Int} {M:Mx} {O:List Rat} {vl x:List Int}
def KhV (w:World) (n:Nat) (M:Mx) (O:List Rat) (x:List Int) (e:Ending) (w':World):Prop :=
 ∃(bv:Bool) (c:Nat->Rat),e = .returned (.tuple #[.bool bv,.int .i64 0])/\CoV n M (λi=>((x.getD i 0:Int):Rat)) c/\(bv=true ↔ ∀j,j<n->qE O c j=0)/\Ext w w'
theorem Kpb (h:FkB w n cp m cu gm sp vo P M O vl) (hx:KQ w (.slice sx nx cx) x) (he:mzE n x=0) (hL:Laid w) :
  Calls Tryz.prog 26 #[bkv n cp m cu gm sp vo,.slice sx nx cx] w (KhV w n M O x):=by
 obtain ⟨hxl,hxb⟩:=Kbd he;have hop:=hid (λW (hW:Ext w W)=>KbA (h.ext hW) (hx.ext hW) (hL.ext hW));have HX:=JD w 60 (.slice sp n cp) (.slice (some ⟨gm,0,none⟩) m cu) vo;have hE0:Ext w (w.alloc (.cells #[.slice sp n cp,.slice (some ⟨gm,0,none⟩) m cu,vo] 60)):=(Ext.refl w).alloc _;obtain ⟨a0,a1,a2⟩:=Zp HX;have hn:=h.hB.hn;have H:=hid h;have Hml:=hid h.ml;have Hx:=hid hx;have Hxl:=hid hxl;have HL:=hid hL;have Hxb:=hid (show ∀z∈x,-1000000000<=z/\z<=1000000000 from λz hz=>⟨by have:=(hxb z hz).1;omega,by have:=(hxb z hz).2;omega⟩);have He:=hid he;have hn0:0<n:=by omega
 have hn3:n<=3:=by omega
 clear h hL HX hx hxl hxb he hn
 go_enter Tryz.func26,Tryz.ntmps26
 go_wp2_with fail;refine (hop.out _ hE0).mono ?_;rintro e W1 (⟨_,bq,vv,rfl,hO,hR,hE1⟩ | ⟨h0,_⟩);rotate_left
 ·exact absurd He.out h0
 have hEr:=hE0.trans hE1;have hf:=H.out.opened hEr hO hR;have hco:=hid (KbG hf.hB hf.c0 hf.c1 hf.hM (Hx.out.ext hEr) Hxl.out Hxb.out (HL.out.ext hEr));have c2:=hf.c2;obtain ⟨so,go,oo,co,rfl,hcO,hsO,hOc⟩:=hf.hO;have hOl:O.length=m:=by rw [hf.hOl,Hml.out]
 have hMl:=hf.hB.len;have Hmn:=hid (show m+1=n by rw [Hml.out];omega);have HOn:=hid hf.hOn;have HOc:=hid hOc;have HOl:=hid hOl;rw [hOl] at c2 hcO hsO;have HsO:=hid hsO;clear hf hO hR hop hOc hOl hMl hsO a0 a1 a2;go_wp2_with fail;refine hco.out.mono ?_;rintro e Y ⟨lv,l,rfl,hll,hCo,hNd,hlv,hEY⟩;obtain ⟨gl,cl,hlve⟩:=KaP hlv (by omega);rw [hll] at hlve;subst hlve;have HO:=hid (Kca hlv hll);have hCl:n<=cl:=by have:=HO.out.cap;rw [hll] at this;exact this
 have HCo:=hid hCo;have HNd:=hid (show ∀j,NdQ 10000000 (l.getD j 0) from λj=>NdQ.getD hNd (by omega) j);have Hll:=hid hll;have hEw:=hEr.trans hEY;have HE1:=hid hEY;clear hCo hNd hlv hll hco;go_wp2_with fail
 go_loopw [23] (λidx wr => ∃(k:Nat),k<=n/\idx = .int .i64 k/\Hid (∀j,j<k->qE O (λj=>l.getD j 0) j=0)/\Ext Y wr) (λidx _=>n-(intOf idx).toNat)
 case atStart=>exact ⟨0,by omega,by go_num,hid (λj hj=>absurd hj (by omega)),Ext.refl _⟩
 case round =>
  obtain ⟨k,hk',rfl,hQ,hE⟩:=hrel;generalize wr=V at *
  by_cases hkn:k<n
  ·have hki:(k:Int)<(n:Int):=by omega
   obtain ⟨l0,l1⟩:=(HO.out.ext hE).cells (i:=k) (by rw [Hll.out];exact hkn);obtain ⟨ck,hck⟩ : ∃ck,ck=l.getD k 0:=⟨_,rfl⟩
   have hck2:l[k]'(by rw [Hll.out];exact hkn)=ck:=by rw [hck,List.getD_eq_getElem?_getD,List.getElem?_eq_getElem (by rw [Hll.out];exact hkn)];rfl
   rw [hck2] at l0 l1;have HP:=hid (QK V (I ck.num) (I ck.den));have Hck:=hid hck;have eA:Ext V (V.alloc (.cells #[I ck.num,I ck.den] 84)):=(Ext.refl V).alloc _;have hbV:=hE.size;have hE2:=hE.trans eA;clear hck hck2;go_upto_region 7 with fail;generalize V.alloc (.cells #[I ck.num,I ck.den] _)=V2 at *;obtain ⟨b10,hb10⟩ : ∃b10,b10=V.heap.size:=⟨_,rfl⟩
   rw [<-hb10] at HP hbV ⊢;have HP2:=hid (HP.out.mono hbV);clear hb10 l0 l1 HP eA;go_upto_if 29 with fail
   go_cut [] from 28 to 41 (λwx => ∃d:Rat,d=l.getD k 0-Qf O k/\Hid (Kd 84 Y.heap.size wx b10 2 [I d.num,I d.den])/\Ext Y wx)
   case first =>
    by_cases hk0:k=0
    ·subst hk0;go_wp2_with fail;go_meet;refine ⟨ck,?_,HP2,hE2⟩;rw [Hck.out];unfold Qf;rw [if_pos rfl];grind
    ·obtain ⟨k1,hk1⟩ : ∃k1,k1=k-1:=⟨_,rfl⟩
     have hk1m:k1<O.length:=by rw [HOl.out];have:=Hmn.out;omega
     obtain ⟨o,ho⟩ : ∃o,o=O[k1]:=⟨_,rfl⟩
     have o1:=HOc.out k1 hk1m;rw [<-ho] at o1;obtain rfl:=HsO.out (by have:=Hmn.out;omega);have hE12:=HE1.out.trans hE2;have q1:=hE12.cell c2;have q3:=hE12.cell o1.1;have q4:=hE12.cell o1.2
     have hd:=hid (show ck-o=l.getD k 0-Qf O k by
      rw [Hck.out,ho];unfold Qf;rw [if_neg hk0,<-hk1,show O.getD k1 0=O[k1] from by rw [List.getD_eq_getElem?_getD,List.getElem?_eq_getElem hk1m];rfl])
     have hon:NdQ 100 o:=by rw [ho];exact HOn.out _ (List.getElem_mem hk1m)
     have hoS:=hid (hon.smQ (by omega));have hcS:=hid (show SmQ ck by rw [Hck.out];exact (HNd.out k).smQ (by omega));have hkp:(0:Int)<(k:Int):=by omega
     have hk1i:(k:Int)-1=(k1:Int):=by omega
     have hk1m':(k1:Int)<(m:Int):=by have:=Hmn.out;omega
     have hwr:IntKind.i64.wrap ((k:Int)-1)=(k1:Int):=by rw [hk1i];exact IntWalk.i64_in _ (by omega)
     have Hsu:=hid (λW (hW:Ext V2 W)=>Ym hcS.out hoS.out (w:=W) (HL.out.ext ((hEw.trans hE2).trans hW)));obtain ⟨d,hdq⟩ : ∃d,d=ck-o:=⟨_,rfl⟩
     rw [<-hdq] at Hsu hd;obtain ⟨p0,p1,_,_⟩:=Kr HP2.out;clear o1 ho hk1 hk1m hon hdq hk1i hE12;go_wp2_with fail;have d0:Ext V2 V2.drew:=(Ext.refl V2).drew;refine Kf (S:=λW=>Ext V2 W) 11 (by kernel_rfl) (by simp) ?_;intro inv;generalize V2.drew=V2d at *;refine tkA (i:=0) (v:=RV ck) rfl (.inl ⟨by rfl,λW hW=>by have y0:=hW.cell p0;have y1:=hW.cell p1;go_simp⟩) d0 inv ?_;intro inv;go_simp;refine tkS (i:=1) (v := .pointer (some ⟨bq,0,none⟩)) rfl d0 inv ?_;intro inv;go_simp;refine tkS (i:=2) (v := .pointer (some ⟨bq,0,none⟩)) rfl d0 inv ?_;intro inv;go_simp;refine tkS (i:=3) (v := .pointer (some ⟨bq,0,none⟩)) rfl d0 inv ?_;intro inv;go_simp;refine tkS (i:=4) (v := .pointer (some ⟨bq,2,none⟩)) rfl d0 inv ?_;intro inv;go_simp;refine tkA (i:=5) (v := .slice (some ⟨go,oo,none⟩) m co) rfl (.inl ⟨by rfl,λW hW=>by have y0:=hW.cell q1;go_simp⟩) d0 inv ?_;intro inv;go_simp;refine tkS (i:=6) (v := .int .i64 k) rfl d0 inv ?_;intro inv;go_simp;refine tkS (i:=7) (v := .int .i64 k1) rfl d0 inv ?_;intro inv;go_simp;refine tkS (i:=8) (v := .pointer (some ⟨go,oo+k1*2,none⟩)) rfl d0 inv ?_;intro inv;go_simp;refine tkA (i:=9) (v:=RV o) rfl (.inl ⟨by rfl,λW hW=>by have y0:=hW.cell q3;have y1:=hW.cell q4;go_simp⟩) d0 inv ?_;intro inv;go_simp;refine Ke (i:=10) rfl (by kernel_rfl) inv (λinv K0 hK0 => ?_);go_simp;refine (Hsu.out _ d0).mono ?_;rintro e V3 ⟨rfl,hGc⟩;have d1:=d0.trans hGc;refine hK0 _ _ d1 ?_;clear hK0;refine Kg (by kernel_rfl) ?_
     obtain ⟨hP3,hE3,hG3⟩:=Zy (HP2.out.ext d1) (hE2.trans d1) (by omega) (I d.num) (I d.den);obtain ⟨_,_,f0,f1⟩:=Kr (HP2.out.ext d1);have HP3:=hid hP3;have HE3:=hid hE3;clear hP3 hE3 hG3 p0 p1;go_wp2_with fail;go_meet;exact ⟨d,hd.out,HP3,HE3.out⟩
   case rest =>
    obtain ⟨d,hd,hP,hEx⟩:=hcut;generalize wc=Z at *;clear HP2 hE2 hE
    have hdS:NdQ 10001001 d:=by
     have h1:NdQ 1000 (Qf O k):=by
      unfold Qf;split
      ·exact NdQ.zero (by omega)
      ·exact NdQ.getD (λx hx=>(HOn.out x hx).mono (by decide)) (by omega) _
     rw [hd];exact (HNd.out k).sub h1
    have hfl:=hid (λW (hW:Ext Z W)=>Jn (hdS.smQ (by omega)) (w:=W) (HL.out.ext ((hEw.trans hEx).trans hW)));obtain ⟨p0,p1,_,_⟩:=Kr hP.out;have hqd:qE O (λj=>l.getD j 0) k=d.floor:=by rw [hd];rfl
    obtain ⟨f,hf⟩ : ∃f,f=d.floor:=⟨_,rfl⟩
    rw [<-hf] at hfl hqd;have Hqd:=hid hqd;have hz:=Ky f;clear hd hdS hf hqd
    by_cases hf0:f=0
    ·rw [decide_eq_true hf0] at hz
     have HQ2:=hid (show ∀j,j<k+1->qE O (λj=>l.getD j 0) j=0 from λj hj=>by
      rcases Nat.lt_or_ge j k with h1 | h1
      ·exact hQ.out j h1
      ·obtain rfl:j=k:=by omega
       rw [Hqd.out];exact hf0)
     clear hf0 hQ;go_wp2_with fail;refine (hfl.out _ (Ext.refl Z)).mono ?_;rintro e Z2 ⟨rfl,hE3⟩;have hEn:=hEx.trans hE3;clear hfl p0 p1 hP hEx hE3;go_wp2_with fail;go_roundw
     case rel=>exact ⟨k+1,by omega,by go_num,HQ2,hEn⟩
     case measure=>simp [intOf]<;>omega
    ·rw [decide_eq_false hf0] at hz;have hne:=hid (show ¬∀j,j<n->qE O (λj=>l.getD j 0) j=0 from λhh=>hf0 (by rw [<-Hqd.out];exact hh k hkn));clear hf0 hQ;go_wp2_with fail;refine (hfl.out _ (Ext.refl Z)).mono ?_;rintro e Z2 ⟨rfl,hE3⟩;have hres:=hid (show KhV w n M O x (.returned (.tuple #[.bool false,.int .i64 0])) Z2 from ⟨false,_,rfl,HCo.out,⟨λh=>absurd h (by decide),λh=>absurd h hne.out⟩,(hEw.trans hEx).trans hE3⟩);clear hfl p0 p1 hP hEx hE3 HCo hne;go_wp2_with fail;go_ret2;exact hres.out
  ·obtain rfl:n=k:=by omega
   have hres:=hid (show KhV w n M O x (.returned (.tuple #[.bool true,.int .i64 0])) V from ⟨true,_,rfl,HCo.out,⟨λ_=>hQ.out,λ_=>rfl⟩,hEw.trans hE⟩);clear hQ HCo;go_wp2_with fail;go_ret2;exact hres.out
theorem KkY {n:Nat} {M:Mx} {v:List Int} (h:BkM n M v) (O:List Rat) {x y q:Nat->Int} {c d:Nat->Rat} (hc:CoV n M (λi=>((x i:Int):Rat)) c) (hd:CoV n M (λi=>((y i:Int):Rat)) d) (hy : ∀i,i<n->y i=x i+KE (λj=>q j*eM (bsM n M) j i) n) :
  ∀i,i<n->KbX n M O y d i=KbX n M O x c i:=λi hi=>by
 have h1:CoV n M (λi=>((y i:Int):Rat)) (λj=>c j+((q j:Int):Rat)) :=
  (hc.add (CoV.self n M q)).congr (λi hi=>by rw [hy i hi,Rat.intCast_add]) (λ_ _=>rfl)
 have h2:=h.uniq hd h1
 have h3 : ∀j,j<n->qE O d j=qE O c j+q j:=λj hj=>by
  rw [<-KpO O c q j];unfold qE;rw [h2 j hj]
 unfold KbX
 have h4:KE (λj=>qE O d j*eM (bsM n M) j i) n=KE (λj=>qE O c j*eM (bsM n M) j i) n+KE (λj=>q j*eM (bsM n M) j i) n:=by
  rw [<-KhD];exact QT λj hj=>by rw [h3 j hj,Int.add_mul]
 rw [h4,hy i hi];omega
theorem KkV {n:Nat} {M:Mx} {v:List Int} (h:BkM n M v) (O:List Rat) {x y:List Int} {q:Nat->Int} {c d:Nat->Rat} (hc:CoV n M (λi=>((x.getD i 0:Int):Rat)) c) (hd:CoV n M (λi=>((y.getD i 0:Int):Rat)) d) (hy : ∀i,i<n->y.getD i 0=x.getD i 0+KE (λj=>q j*eM (bsM n M) j i) n) :
  rdL n M O y d=rdL n M O x c:=by
 refine List.ext_getElem (by simp) λi h1 h2 => ?_
 have hi:i<n:=by simpa using h1
 have h3:=KkY h O hc hd hy i hi;rw [<-JR (O:=O) hi,<-JR (O:=O) hi,Ka h1,Ka h2] at h3;exact h3
def yT (x:List Int) (q:Nat->Int) (n:Nat) (M:Mx) (i c:Nat):List Int:=(List.range n).map λt=>x.getD t 0+(if t=0 then (q 0).tmod 4 else 0)+KE (λj=>(q (j+1)).tmod 4*eM M j t) (if t<c then i+1 else i)
@[simp] theorem Kqa (x:List Int) (q:Nat->Int) (n:Nat) (M:Mx) (i c:Nat):(yT x q n M i c).length=n:=by simp [yT]
theorem KgS {a b:List Int} (hl:a.length=b.length) (h : ∀t,t<a.length->a.getD t 0=b.getD t 0):a=b:=by
 refine List.ext_getElem hl λt h1 h2 => ?_
 have:=h t h1;rwa [Ka h1,Ka h2] at this
theorem Kph {l:Nat->Int} (h : ∀i,-128<=l i/\l i<=127):Ar4 #[.int .i8 (l 0),.int .i8 (l 1),.int .i8 (l 2),.int .i8 (l 3)] [l 0,l 1,l 2,l 3] :=
  ⟨rfl,rfl,λj hj=>by
    rcases (show j=0\/j=1\/j=2\/j=3 by omega) with rfl | rfl | rfl | rfl<;>rfl,
   λz hz=>by
    simp only [List.mem_cons,List.not_mem_nil,or_false] at hz
    rcases hz with rfl | rfl | rfl | rfl<;>exact h _⟩
def fn4 (a b c d:Int):Nat->Int
 | 0=>a
 | 1=>b
 | 2=>c
 | _=>d
theorem Kql {a b c d:Int} (ha : -128<=a/\a<=127) (hb : -128<=b/\b<=127) (hc : -128<=c/\c<=127) (hd : -128<=d/\d<=127) : ∀i,-128<=fn4 a b c d i/\fn4 a b c d i<=127
 | 0=>ha
 | 1=>hb
 | 2=>hc
 | _+3=>hd
theorem KqE {M:Mx} (hl:M.length=1) (hR:Ks 2 M) : ∃a b,M=[[a,b]]:=by
 match M,hl,hR with
 | [r],_,hR =>
  have h:=hR r (by simp)
  match r,h with
  | [a,b],_=>exact ⟨a,b,rfl⟩
theorem KpW {r:List Int} (h:r.length=3) : ∃a b c,r=[a,b,c]:=by
 match r,h with
 | [a,b,c],_=>exact ⟨a,b,c,rfl⟩
theorem KqR {r:List Int} (h:r.length=2) : ∃a b,r=[a,b]:=by
 match r,h with
 | [a,b],_=>exact ⟨a,b,rfl⟩
theorem KqF {M:Mx} (hl:M.length=2) (hR:Ks 3 M) : ∃a b c d e f,M=[[a,b,c],[d,e,f]]:=by
 match M,hl,hR with
 | [r,s],_,hR =>
  obtain ⟨a,b,c,rfl⟩:=KpW (hR r (by simp));obtain ⟨d,e,f,rfl⟩:=KpW (hR s (by simp));exact ⟨a,b,c,d,e,f,rfl⟩
theorem KnR {M:Mx} {v x:List Int} {c:Nat->Rat} (h:BkM 2 M v) (hx:x.length=2) (hc:CoV 2 M (λi=>((x.getD i 0:Int):Rat)) c) :
  Jw (bsM 2 M)≠0 /\ ∀i,i<2->((Jw ((bsM 2 M).set i x):Int):Rat)=c i*((Jw (bsM 2 M):Int):Rat):=by
 have hl:=h.len;obtain ⟨a,b,rfl⟩:=KqE (by omega) h.rect;obtain ⟨p,q,rfl⟩:=KqR hx;have hz:=h.nz;obtain ⟨e0,e1⟩:=hc.e2;have e0:c 0+(a:Rat)*c 1=(p:Rat):=e0;have e1:(b:Rat)*c 1=(q:Rat):=e1;have hz:0-b≠0:=hz;have hd:Jw (bsM 2 [[a,b]])=1*b-0*a:=rfl;refine ⟨by rw [hd];omega,λi hi => ?_⟩
 rcases (show i=0\/i=1 by omega) with rfl | rfl
 ·have h1:Jw ((bsM 2 [[a,b]]).set 0 [p,q])=p*b-q*a:=rfl;rw [h1,hd,Rat.intCast_sub,Rat.intCast_sub,Rat.intCast_mul,Rat.intCast_mul,Rat.intCast_mul,Rat.intCast_mul,Rat.intCast_one,Rat.intCast_zero,<-e0,<-e1]
  grind
 ·have h1:Jw ((bsM 2 [[a,b]]).set 1 [p,q])=1*q-0*p:=rfl;rw [h1,hd,Rat.intCast_sub,Rat.intCast_sub,Rat.intCast_mul,Rat.intCast_mul,Rat.intCast_mul,Rat.intCast_mul,Rat.intCast_one,Rat.intCast_zero,<-e1]
  grind
theorem KnS {M:Mx} {v x:List Int} {c:Nat->Rat} (h:BkM 3 M v) (hx:x.length=3) (hc:CoV 3 M (λi=>((x.getD i 0:Int):Rat)) c) :
  Zt (bsM 3 M) 3≠0 /\ ∀i,i<3->((Zt ((bsM 3 M).set i x) 3:Int):Rat)=c i*((Zt (bsM 3 M) 3:Int):Rat):=by
 have hl:=h.len;obtain ⟨a0,a1,a2,b0,b1,b2,rfl⟩:=KqF (by omega) h.rect;obtain ⟨x0,x1,x2,rfl⟩:=KpW hx;have hz:=h.nz;obtain ⟨e0,e1,e2⟩:=hc.e3;have e0:c 0+(a0:Rat)*c 1+(b0:Rat)*c 2=(x0:Rat):=e0;have e1:(a1:Rat)*c 1+(b1:Rat)*c 2=(x1:Rat):=e1;have e2:(a2:Rat)*c 1+(b2:Rat)*c 2=(x2:Rat):=e2;have hz:a1*b2-a2*b1≠0:=hz;have hd:Zt (bsM 3 [[a0,a1,a2],[b0,b1,b2]]) 3=0+1*(a1*b2-a2*b1)+0*(a2*b0-a0*b2)+0*(a0*b1-a1*b0):=rfl;have hd2:Zt (bsM 3 [[a0,a1,a2],[b0,b1,b2]]) 3=a1*b2-a2*b1:=by rw [hd];omega
 refine ⟨by rw [hd2];exact hz,λi hi => ?_⟩;rw [hd2,Rat.intCast_sub,Rat.intCast_mul,Rat.intCast_mul]
 rcases (show i=0\/i=1\/i=2 by omega) with rfl | rfl | rfl
 ·have h1:Zt ((bsM 3 [[a0,a1,a2],[b0,b1,b2]]).set 0 [x0,x1,x2]) 3=0+x0*(a1*b2-a2*b1)+x1*(a2*b0-a0*b2)+x2*(a0*b1-a1*b0):=rfl;rw [h1];simp only [Rat.intCast_add,Rat.intCast_sub,Rat.intCast_mul,Rat.intCast_zero,<-e0,<-e1,<-e2]
  grind
 ·have h1:Zt ((bsM 3 [[a0,a1,a2],[b0,b1,b2]]).set 1 [x0,x1,x2]) 3=0+1*(x1*b2-x2*b1)+0*(x2*b0-x0*b2)+0*(x0*b1-x1*b0):=rfl;rw [h1];simp only [Rat.intCast_add,Rat.intCast_sub,Rat.intCast_mul,Rat.intCast_zero,Rat.intCast_one,<-e0,<-e1,<-e2]
  grind
 ·have h1:Zt ((bsM 3 [[a0,a1,a2],[b0,b1,b2]]).set 2 [x0,x1,x2]) 3=0+1*(a1*x2-a2*x1)+0*(a2*x0-a0*x2)+0*(a0*x1-a1*x0):=rfl;rw [h1];simp only [Rat.intCast_add,Rat.intCast_sub,Rat.intCast_mul,Rat.intCast_zero,Rat.intCast_one,<-e0,<-e1,<-e2]
  grind
theorem Kf8 (f:Nat->Int) : ∀k,KE (λj=>(0:Int)*f j) k=0
 | 0=>rfl
 | k+1=>by
  show KE _ k+0*f k=0;rw [Kf8 f k];omega
theorem KkU {n:Nat} {M:Mx} {v:List Int} (h:BkM n M v) (O:List Rat) {x:List Int} {c d:Nat->Rat} (hc:CoV n M (λi=>((x.getD i 0:Int):Rat)) c) (hd:CoV n M (λi=>((x.getD i 0:Int):Rat)) d):rdL n M O x c=rdL n M O x d :=
 KkV h O (q:=λ_=>0) hd hc (λi _=>by rw [Kf8];omega)
theorem KmU {n:Nat} {M:Mx} {v:List Int} (h:BkM n M v) (O:List Rat) {x:List Int} (hx:x.length=n) {c:Nat->Rat}:x=rdL n M O x c ↔ ∀j,j<n->qE O c j=0:=by
 constructor
 ·intro e j hj
  have h1:CoV n M (λ_=>0) (λj=>((qE O c j:Int):Rat)):=(CoV.self n M (qE O c)).congr (λi hi=>by
   have h2:(rdL n M O x c).getD i 0=x.getD i 0:=by rw [<-e]
   rw [JR hi] at h2;have h2:x.getD i 0-KE (λj=>qE O c j*eM (bsM n M) j i) n=x.getD i 0:=h2
   rw [show KE (λj=>qE O c j*eM (bsM n M) j i) n=0 by omega];rfl) (λ_ _=>rfl)
  have h2:=h.non h1 j hj;exact_mod_cast h2
 ·intro h0;refine (KgS (by simp [hx]) λt ht => ?_).symm;have htn:t<n:=by simpa using ht
  rw [JR htn];show x.getD t 0-KE (λj=>qE O c j*eM (bsM n M) j t) n=x.getD t 0;rw [QT (g:=λj=>0*eM (bsM n M) j t) (λj hj=>by rw [h0 j hj]),Kf8];omega
theorem Kho (O:List Rat) (c:Nat->Rat) (j:Nat):qE O c j=0 ↔ ¬c j<Qf O j/\c j<Qf O j+1:=by
 unfold qE;rw [XZ,Rat.intCast_zero];constructor<;>(rintro ⟨h1,h2⟩;constructor<;>grind)
theorem Kgv (a b:Rat):Kh1 a b<0↔a<b:=by
 unfold Kh1;split
 ·next h=>exact ⟨λ_=>h,λ_=>by decide⟩
 ·next h =>
  split
  ·exact ⟨λhh=>absurd hh (by decide),λhh=>absurd hh h⟩
  ·exact ⟨λhh=>absurd hh (by decide),λhh=>absurd hh h⟩
theorem KjK {a b:Int} {c:Rat} (hb:b≠0) (h:((a:Int):Rat)=c*((b:Int):Rat)):((a:Int):Rat)/((b:Int):Rat)=c:=by
 rw [h];exact Rat.mul_div_cancel (Kdf hb)
theorem Km7 {n:Nat} {F:Mx} {x:List Int} (h:Ks n F) (hx:x.length=n) (i:Nat):Ks n (F.set i x):=λr hr=>by
 rcases List.mem_or_eq_of_mem_set hr with h1 | h1
 ·exact h r h1
 ·rw [h1];exact hx
theorem KiH {F:Mx} {x:List Int} {B:Nat} (h : ∀r∈F,∀z∈r,z.natAbs<=B) (hx : ∀z∈x,z.natAbs<=B) (i:Nat) : ∀r∈F.set i x,∀z∈r,z.natAbs<=B:=λr hr=>by
 rcases List.mem_or_eq_of_mem_set hr with h1 | h1
 ·exact h r h1
 ·rw [h1];exact hx
theorem Kdd {n:Nat} {M:Mx} (hn:0<n) (h : ∀r∈M,∀z∈r,z.natAbs<=8) : ∀r∈bsM n M,∀z∈r,z.natAbs<=1000000:=λr hr z hz=>by
 rcases List.mem_cons.1 hr with rfl | hr
 ·obtain ⟨i,hi,rfl⟩:=List.getElem_of_mem hz;rw [<-Ka hi,Ken hn];split<;>simp
 ·have:=h r hr z hz;omega
def KcJ (n:Nat) (F:Mx):Int:=if n=2 then Jw F else Zt F 3
theorem KlW {n:Nat} {M:Mx} {v x:List Int} {c:Nat->Rat} (h:BkM n M v) (hx:x.length=n) (hc:CoV n M (λi=>((x.getD i 0:Int):Rat)) c) :
  KcJ n (bsM n M)≠0 /\ ∀i,i<n->((KcJ n ((bsM n M).set i x):Int):Rat)/((KcJ n (bsM n M):Int):Rat)=c i:=by
 rcases h.hn with rfl | rfl
 ·obtain ⟨h1,h2⟩:=KnR h hx hc;exact ⟨h1,λi hi=>KjK h1 (h2 i hi)⟩
 ·obtain ⟨h1,h2⟩:=KnS h hx hc;exact ⟨h1,λi hi=>KjK h1 (h2 i hi)⟩
theorem KfN {n:Nat} {F:Mx} (h : ∀r∈F,∀z∈r,z.natAbs<=1000000):(KcJ n F).natAbs<=6000000000000000000:=by
 unfold KcJ;split
 ·have m1:=Kcs (YO h 0 0) (YO h 1 1);have m2:=Kcs (YO h 0 1) (YO h 1 0);unfold Jw;omega
 ·have m1:=Kdq h 0 1 2;have m2:=Kdq h 1 2 0;have m3:=Kdq h 2 0 1;show (0+dt3 F 0 1 2+dt3 F 1 2 0+dt3 F 2 0 1).natAbs<=_;omega
theorem KeY {w:World} {v:Value} {F:Mx} {n:Nat} (hn:n=2\/n=3) (hM:Qb w v F) (hl:F.length=n) (hR:Ks n F) (hB : ∀r∈F,∀z∈r,z.natAbs<=1000000) :
  Calls Tryz.prog 79 #[v] w λe w'=>e = .returned (.int .i64 (KcJ n F))/\Ext w w':=by
 rcases hn with rfl | rfl
 ·have e:KcJ 2 F=Jw F:=if_pos rfl;rw [e];exact Kkm hM hl hR hB
 ·have e:KcJ 3 F=Zt F 3:=if_neg (by omega);rw [e];exact KgJ hM hl hR hB
variable {w:World} {n cp m cu gm nx cx:Nat} {sp sx:Option Addr} {vo:Value} {P:List Int} {M:Mx} {O:List Rat} {vl x:List Int}
def Klo (w:World) (n:Nat) (M:Mx) (x:List Int) (e:Ending) (w':World):Prop :=
 ∃(v:Value) (l:List Rat),e = .returned (.tuple #[v,.int .i64 0])/\l.length=n/\CoV n M (λi=>((x.getD i 0:Int):Rat)) (λj=>l.getD j 0)/\SzV w.heap.size w' v l/\Ext w w'
theorem Kc5 (h:FkB w n cp m cu gm sp vo P M O vl) (hx:KQ w (.slice sx nx cx) x) (he:mzE n x=0) (hL:Laid w) :
  Calls Tryz.prog 30 #[bkv n cp m cu gm sp vo,.slice sx nx cx] w (Klo w n M x):=by
 obtain ⟨hxl,hxb⟩:=Kbd he;have hop:=hid (λW (hW:Ext w W)=>KbA (h.ext hW) (hx.ext hW) (hL.ext hW));have HX:=JD w 60 (.slice sp n cp) (.slice (some ⟨gm,0,none⟩) m cu) vo;have hE0:Ext w (w.alloc (.cells #[.slice sp n cp,.slice (some ⟨gm,0,none⟩) m cu,vo] 60)):=(Ext.refl w).alloc _;obtain ⟨a0,a1,a2⟩:=Zp HX;have H:=hid h;have HL:=hid hL;have Hx:=hid hx;have Hl:=hid hxl;have Hb:=hid (show ∀z∈x,-1000000000<=z/\z<=1000000000 from λz hz=>⟨by have:=(hxb z hz).1;omega,by have:=(hxb z hz).2;omega⟩);have He:=hid he;clear h hL HX hx hxl hxb he
 go_enter Tryz.func30,Tryz.ntmps30
 go_wp2_with fail;refine (hop.out _ hE0).mono ?_;rintro e W1 (⟨_,bq,vv,rfl,hO,hR,hE1⟩ | ⟨h0,_⟩);rotate_left
 ·exact absurd He.out h0
 have hEr:=hE0.trans hE1;have hf:=H.out.opened hEr hO hR;have hco:=hid (KbG hf.hB hf.c0 hf.c1 hf.hM (Hx.out.ext hEr) Hl.out Hb.out (HL.out.ext hEr));clear hf hO hR hop;go_wp2_with fail;refine hco.out.mono ?_;rintro e Y ⟨lv,l,rfl,hll,hCo,hNd,hlv,hEY⟩;have hres:=hid (show Klo w n M x (.returned (.tuple #[lv,.int .i64 0])) Y from ⟨lv,l,rfl,hll,hCo,hlv.mono hEr.size,hEr.trans hEY⟩);clear hCo hNd hlv hll hco;go_wp2_with fail;go_ret2;exact hres.out
end
end Go.Proofs.YtmhfccigejcphaaGreatDoor
