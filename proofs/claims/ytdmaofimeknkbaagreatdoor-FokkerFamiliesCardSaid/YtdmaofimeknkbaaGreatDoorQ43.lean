/- Part 43 of the proof of the claim: contracts of the functions that it reaches, and plain laws; no condition. -/
import Derived.Test.YtdmaofimeknkbaaGreatDoorQ40
import Derived.Test.YtdmaofimeknkbaaGreatDoorQ42
import Derived.Test.YtdmaofimeknkbaaGreatDoorQ34
import Derived.Test.YtdmaofimeknkbaaGreatDoorQ27
import Derived.Test.YtdmaofimeknkbaaGreatDoorQ19
set_option maxRecDepth 100000
set_option maxHeartbeats 20000000
namespace Go.Proofs.YtdmaofimeknkbaaGreatDoor
section
open Go.RowKit Go.Sort
open Lib (hid)
def KcQ (n:Nat) (M:Mx) (O:List Rat) (vl:List Int) (L:Mx):Prop :=
 ∀k (h:k<L.length),∃(X:List Int) (c:Nat->Rat),X.length=n/\CoV n M (λi=>((X.getD i 0:Int):Rat)) c/\KD (λi=>vl.getD i 0*X.getD i 0) n=k/\L[k]=rdL n M O X c
theorem KcQ.snoc {n:Nat} {M:Mx} {O:List Rat} {vl:List Int} {L:Mx} (h:KcQ n M O vl L) {X:List Int} {c:Nat->Rat} (h1:X.length=n) (h2:CoV n M (λi=>((X.getD i 0:Int):Rat)) c) (h3:KD (λi=>vl.getD i 0*X.getD i 0) n=L.length):KcQ n M O vl (L++[rdL n M O X c]):=λk hk=>by
 rcases Nat.lt_or_ge k L.length with h4 | h4
 ·rw [List.getElem_append_left h4];exact h k h4
 ·have h5:k=L.length:=by simp at hk;omega
  subst h5;exact ⟨X,c,h1,h2,h3,by rw [List.getElem_append_right (Nat.le_refl _)];simp⟩
def KfS (w:World) (n:Nat) (M:Mx) (O:List Rat) (vl:List Int) (e:Ending) (w':World):Prop :=
 ∃(v:Value) (L:Mx),e = .returned (.tuple #[v,.int .i64 0])/\L.length=(vl.getD 0 0).toNat/\KcQ n M O vl L/\Qk w.heap.size w' v L/\Ext w w'
theorem Kiq {n:Nat} {M:Mx} {vl:List Int} (h:BkM n M vl) {k:Int} (hk:k.natAbs<=1000):XL (Ze vl) [k]=0:=by
 have hn:=h.hn;have hl:=h.vlen
 have hnc:KX (Ze vl)=1:=by
  have h0:0<(Ze vl).length:=by rw [Zw];omega
  show ((Ze vl).getD 0 []).length=1;rw [Ka h0];exact Kam vl _ (List.getElem_mem h0)
 have h1:Qr (Ze vl)=0:=by
  unfold Qr;rw [if_neg (by rw [Zw];omega)];refine Kbb _ _ λj hj => ?_
  have h2:=Kam vl _ (List.getElem_mem hj);have h3:((Ze vl).getD 0 []).length=1:=hnc;rw [h3]
  have h5:(Ze vl)[j].any grt=false:=by
   rw [List.any_eq_false];intro z hz;obtain ⟨y,hy,he⟩:=List.mem_map.1 (List.getElem_mem hj);rw [<-he,List.mem_singleton] at hz;obtain ⟨i,hi,rfl⟩:=List.getElem_of_mem hy;have:=h.vb i;rw [Ka hi] at this;unfold grt;simp only [decide_eq_true_eq];omega
  unfold XN;simp [h2,h5]
 have h2:QW [k]=0:=by
  unfold QW;have:grt k=false:=by unfold grt;exact decide_eq_false (by omega)
  simp [this]
 unfold XL;rw [if_pos h1,if_pos h2,if_neg (by rw [hnc];simp)]
theorem Koc {n:Nat} (h:n=2\/n=3):2*((bC n 30 (1+n)+(bC n 30 (1+n)+1)*n)+((bC n 30 (1+n)+(bC n 30 (1+n)+1)*n)+1)*n)+6<LIM:=by
 rcases h with rfl | rfl<;>decide
theorem KjZ {w:World} {z:Int}:Kd 3 w.heap.size (w.alloc (.cells #[.int .i64 z] 3)) w.heap.size 1 (is [z]) :=
 Kd.of (Nat.le_refl _) Array.getElem?_push_size (by simp) (by unfold maxLen;omega) rfl rfl
structure FkO (w:World) (b n cp m cu gm:Nat) (sp:Option Addr) (vo vv:Value) (M:Mx) (O:List Rat) (vl:List Int):Prop where
 c0:w.cell? ⟨b,0,none⟩=some (.slice sp n cp)
 c1:w.cell? ⟨b,1,none⟩=some (.slice (some ⟨gm,0,none⟩) m cu)
 c2:w.cell? ⟨b,2,none⟩=some vo
 c3:w.cell? ⟨b,3,none⟩=some vv
 hM:KJ w (.slice (some ⟨gm,0,none⟩) m cu) M
 hO:SzR w vo O
 hv:KT w vv vl
 hOl:O.length=M.length
 hOn : ∀x∈O,NdQ 100 x
 hOb : ∀j,-12<=QQ O j/\QQ O j<=12
 hB:BkM n M vl
theorem FkO.ext {w w':World} {b n cp m cu gm:Nat} {sp:Option Addr} {vo vv:Value} {M:Mx} {O:List Rat} {vl:List Int} (h:FkO w b n cp m cu gm sp vo vv M O vl) (he:Ext w w'):FkO w' b n cp m cu gm sp vo vv M O vl :=
 ⟨he.cell h.c0,he.cell h.c1,he.cell h.c2,he.cell h.c3,h.hM.ext he,h.hO.ext he,h.hv.ext he,h.hOl,h.hOn,h.hOb,h.hB⟩
theorem FkB.opened {w w':World} {n cp m cu gm b:Nat} {sp:Option Addr} {vo vv:Value} {P:List Int} {M:Mx} {O:List Rat} {vl:List Int} (h:FkB w n cp m cu gm sp vo P M O vl) (hE:Ext w w') {B:Nat} (hO:Kd 65 B w' b 4 [.slice sp n cp,.slice (some ⟨gm,0,none⟩) m cu,vo,vv]) (hv:KT w' vv vl):FkO w' b n cp m cu gm sp vo vv M O vl:=by
 obtain ⟨k0,k1,k2,k3⟩:=Kdu hO;exact ⟨k0,k1,k2,k3,h.hM.ext hE,h.hO.ext hE,hv,h.hOl,h.hOn,h.hOb,h.hB⟩
theorem FkO.red {w:World} {b n cp m cu gm:Nat} {sp:Option Addr} {vo vv vx:Value} {M:Mx} {O:List Rat} {vl X:List Int} (h:FkO w b n cp m cu gm sp vo vv M O vl) (hx:KT w vx X) (hX:X.length=n) (hXb : ∀z∈X,-1000000000<=z/\z<=1000000000) (hL:Laid w) :
  Calls Tryz.prog 35 #[.pointer (some ⟨b,0,none⟩),vx] w (Kik w n M O X) :=
 Kgn h.hB h.c0 h.c1 h.c2 h.hM h.hO h.hOl (λx hx=>(h.hOn x hx).mono (by omega)) h.hOb hx hX hXb hL
theorem KaK {w:World} {b n cp m cu gm:Nat} {sp:Option Addr} {vo vv:Value} {M:Mx} {O:List Rat} {vl:List Int} (h:FkO w b n cp m cu gm sp vo vv M O vl) (hL:Laid w) :
  Calls Tryz.prog 16 #[.pointer (some ⟨b,0,none⟩)] w (KfS w n M O vl):=by
 have hn:=h.hB.hn;have hvl:=h.hB.vlen;have hpos:=h.hB.pos;have hle:=h.hB.le;have H:=hid h;have HL:=hid hL;have HB:=hid h.hB;have c3:=h.c3;obtain ⟨sv,gv,ov,cv,rfl,hcv,hSv⟩:=h.hv;rw [hvl] at c3 hcv;have HS:=hid hSv;have Hvl:=hid hvl;have hn0:0<n:=by omega
 have hn3:n<=3:=by omega
 obtain rfl:=hSv.addr (by simp;omega);obtain ⟨V,hV⟩ : ∃V,V=(vl.getD 0 0).toNat:=⟨_,rfl⟩
 have hVi:vl.getD 0 0=(V:Int):=by omega
 have hV100:V<=100:=by omega
 have v0:=hSv.cell 0 (.int .i64 (V:Int)) (by rw [Qg (show 0<vl.length by omega),<-hVi,Ka (show 0<vl.length by omega)]);rw [Nat.add_zero] at v0;have HVi:=hid hVi;have HV:=hid hV;have Hn:=hid hn;clear h hL hvl hSv hpos hle hVi hV hn
 go_enter Tryz.func16,Tryz.ntmps16
 go_wp2_with fail
 go_loopw [4,18] (λvm idx wr => ∃i:Nat,i<=n/\idx = .int .i64 i/\Hid (Qk w.heap.size wr vm (Ze (vl.take i)))/\Ext w wr) (λ_ idx _=>n-(intOf idx).toNat)
 case atStart=>exact ⟨0,by omega,by go_num,hid (Qk.nil _ _),Ext.refl _⟩
 case round =>
  obtain ⟨i,hi,rfl,hMt,hE⟩:=hrel;generalize wr=X at *
  by_cases hin:i<n
  ·have hii:(i:Int)<(n:Int):=by omega
   have hiv:i<vl.length:=by rw [Hvl.out];exact hin
   obtain ⟨z,hz⟩ : ∃z,z=vl[i]:=⟨_,rfl⟩
   have z0:=hE.cell (HS.out.cell i (.int .i64 z) (by rw [hz];exact Qg hiv));have Hsn:=hid (show Ze (vl.take i)++[[z]]=Ze (vl.take (i+1)) by rw [List.take_succ_eq_append_getElem hiv,hz];unfold Ze;rw [List.map_append];rfl);have Hil:=hid (show (Ze (vl.take i)).length=i by rw [Zw,List.length_take];omega);have eA:=(Ext.refl X).alloc (.cells #[.int .i64 z] 3);have eB:=eA.alloc (.cells #[.slice (some ⟨X.heap.size,0,none⟩) 1 1] 38);have Hrw:=hid (show KH w.heap.size ((X.alloc (.cells #[.int .i64 z] 3)).alloc (.cells #[.slice (some ⟨X.heap.size,0,none⟩) 1 1] 38)) (slv X.heap.size 1 1) [z] from ((KjZ (w:=X) (z:=z)).mono hE.size).ext ((Ext.refl _).alloc _));have hMt2:=hid (hMt.out.ext eB);have hXs:=hE.size;clear hz hiv hMt;go_wp2_with (at_builtin;refine KfX rfl _ _ rfl rfl hMt2.out rfl (b:=X.heap.size+1) (rv:=slv X.heap.size 1 1) (r:=[z]) (by go_simp) Hrw.out (by rw [Hil.out];omega) (by simp;omega) ?_;intro gg cap2 w8 hO8 hB8 hG8;rw [Hil.out] at hO8 ⊢;rw [Hsn.out] at hO8)
   have hE8:Ext w w8:=Below.trans (hE.trans eB) hB8;have HO8:=hid hO8;clear hG8 hB8 hO8;go_wp2_with fail;go_roundw
   case rel=>exact ⟨i+1,by omega,by go_num,HO8,hE8⟩
   case measure=>simp [intOf]<;>omega
  ·obtain rfl:n=i:=by omega
   have hMx:=hMt.out;rw [List.take_of_length_le (by rw [Hvl.out];exact Nat.le_refl _)] at hMx;have HM:=hid hMx;have v0X:=hE.cell v0;have c3X:=hE.cell c3;clear hMt hMx;go_wp2_with fail
   go_loopw [7,34] (λov' idx wr => ∃(k:Nat) (L:Mx),k<=V/\idx = .int .i64 k/\L.length=k/\Hid (KcQ n M O vl L)/\Hid (Qk X.heap.size wr ov' L)/\Ext X wr) (λ_ idx _=>V-(intOf idx).toNat)
   case atStart=>exact ⟨0,[],by omega,by go_num,rfl,hid (λk h=>absurd h (by simp)),hid (Qk.nil _ _),Ext.refl _⟩
   case round =>
    obtain ⟨k,L,hk,rfl,hLk,hD,hLm,hEk⟩:=hrel;generalize wr=Y at *;have HLk:=hid hLk
    by_cases hkV:k<V
    ·have hki:(k:Int)<(V:Int):=by omega
     have eA:=(Ext.refl Y).alloc (.cells #[.int .i64 (k:Int)] 3);have hEY:=hE.trans hEk
     have hso:=hid (Kkr (w:=Y.alloc (.cells #[.int .i64 (k:Int)] 3)) (M:=Ze vl) (b:=[(k:Int)]) (c:=1) ((HM.out.mat.ext hEk).ext eA) (Kd.rowR (KjZ (w:=Y) (z:=(k:Int)))) (Kiq HB.out (by omega)) (by rw [Zw,Hvl.out];exact hn0) (by
      have h0:0<(Ze vl).length:=by rw [Zw,Hvl.out];exact hn0
      show 1=((Ze vl).getD 0 []).length
      rw [Ka h0];exact (Kam vl _ (List.getElem_mem h0)).symm) rfl (by rw [Zw,Hvl.out];exact Koc Hn.out) (HL.out.ext (hEY.trans eA)))
     have hLm2:=hid (hLm.out.ext eA);clear hLk hLm;go_wp2_with fail;refine hso.out.mono ?_;rintro e Z ⟨H',hH,hEZ,hcase⟩;obtain ⟨hz,hsm,hxl,hxs⟩:=HB.out.sol hH (k:=(k:Int)) (by omega)
     rcases hcase with ⟨hno,_⟩ | ⟨_,_,vx,rfl,hvx⟩ | ⟨_,hno,_⟩
     ·exact absurd hz hno
     ·obtain ⟨x,hx⟩ : ∃x,x=XX 1 H' (Ze vl).length [(k:Int)]:=⟨_,rfl⟩
      rw [<-hx] at hsm hxl hxs hvx;have eZ:=hEY.trans (eA.trans hEZ);have hrd:=hid ((H.out.ext eZ).red hvx.row hxl (Ka1.1 hsm) (HL.out.ext eZ));have Hxl:=hid hxl;have Hxs:=hid hxs;have hLm3:=hid (hLm2.out.ext hEZ);have hEkZ:=hEk.trans (eA.trans hEZ);clear hso hH hz hsm hxl hxs hvx hx hLm2 eZ hEY;go_wp2_with fail;refine hrd.out.mono ?_;rintro e Q ⟨vy,c,rfl,hco,hy,hEQ⟩;obtain ⟨ay,ky,hvy⟩:=hy.shapeQ;rw [Xp] at hvy;subst hvy;have hD2:=hid (hD.out.snoc Hxl.out hco (by rw [HLk.out];exact Hxs.out));have hQa:X.heap.size<=(Q.alloc (.cells #[.slice ay n ky] 38)).heap.size:=((hEkZ.trans hEQ).alloc (.cells #[.slice ay n ky] 38)).size;have hk9:k<=1000000000:=by omega
      have Hy:=hid (show KH X.heap.size (Q.alloc (.cells #[.slice ay n ky] 38)) (.slice ay n ky) (rdL n M O x c) from (hy.mono hEkZ.size).ext ((Ext.refl _).alloc _));have hLm4:=hid ((hLm3.out.ext hEQ).ext ((Ext.refl Q).alloc (.cells #[.slice ay n ky] 38)));have hEq:=hEkZ.trans hEQ;clear hrd hco hy hLm3 hD hEkZ;go_wp2_with (at_builtin;refine KlW rfl _ _ 30 Tryz.underlying30 rfl rfl hLm4.out rfl (b:=Q.heap.size) (rv := .slice ay n ky) (r:=rdL n M O x c) (by go_simp) Hy.out (by rw [HLk.out];exact hk9) hQa ?_;intro gg cap2 w8 hO8 hB8 hG8;rw [HLk.out] at hO8 ⊢)
      have hE8:Ext X w8:=Below.trans (hEq.alloc _) hB8;have HO8:=hid hO8;clear hG8 hB8 hO8;go_wp2_with fail;go_roundw
      case rel=>exact ⟨k+1,_,by omega,by go_num,by rw [List.length_append,HLk.out];rfl,hD2,HO8,hE8⟩
      case measure=>simp [intOf]<;>omega
     ·rw [hsm] at hno;exact absurd hno (by simp)
    ·obtain rfl:V=k:=by omega
     have hEr:=hE.trans hEk;have hres:=hid (show ∀u,Qk X.heap.size Y u L->KfS w n M O vl (.returned (.tuple #[u,.int .i64 0])) Y from λu hu=>⟨u,L,rfl,by rw [<-HV.out];exact HLk.out,hD.out,hu.mono hE.size,hEr⟩);have hLm2:=hLm.out;clear hLk hD;go_wp2_with fail;go_ret2;exact hres.out _ hLm2
variable {w:World} {n cp m cu gm nx cx:Nat} {sp sx:Option Addr} {vo:Value} {P:List Int} {M:Mx} {O:List Rat} {vl x:List Int}
theorem KqC (h:FkB w n cp m cu gm sp vo P M O vl) (hL:Laid w) :
  Calls Tryz.prog 11 #[bkv n cp m cu gm sp vo] w λe w' => ∃v,e = .returned (.tuple #[v,.int .i64 0])/\KT w' v vl/\Ext w w':=by
 have hop:=hid (λW (hW:Ext w W)=>Kgk (h.ext hW) (hL.ext hW));have HX:=KcV w 34 (.slice sp n cp) (.slice (some ⟨gm,0,none⟩) m cu) vo;have hE0:Ext w (w.alloc (.cells #[.slice sp n cp,.slice (some ⟨gm,0,none⟩) m cu,vo] 34)):=(Ext.refl w).alloc _;obtain ⟨a0,a1,a2⟩:=Xk HX;clear h hL HX
 go_enter Tryz.func11,Tryz.ntmps11
 go_wp2_with fail;refine (hop.out _ hE0).mono ?_;rintro e W1 ⟨bq,vv,rfl,hO,hR,hE1⟩;obtain ⟨c0,c1,c2,c3⟩:=Kdu hO;have hres:=hid (show ∃v,Ending.returned (.tuple #[vv,.int .i64 0]) = .returned (.tuple #[v,.int .i64 0])/\KT W1 v vl/\Ext w W1 from ⟨vv,rfl,hR,hE0.trans hE1⟩);clear hO hR hop;go_wp2_with fail;go_ret2;exact hres.out
theorem Km9 (h:FkB w n cp m cu gm sp vo P M O vl) (hL:Laid w) :
  Calls Tryz.prog 12 #[bkv n cp m cu gm sp vo] w λe w'=>e = .returned (.tuple #[.int .i64 (vl.getD 0 0),.int .i64 0])/\Ext w w':=by
 have hop:=hid (λW (hW:Ext w W)=>Kgk (h.ext hW) (hL.ext hW));have HX:=KcV w 34 (.slice sp n cp) (.slice (some ⟨gm,0,none⟩) m cu) vo;have hE0:Ext w (w.alloc (.cells #[.slice sp n cp,.slice (some ⟨gm,0,none⟩) m cu,vo] 34)):=(Ext.refl w).alloc _;obtain ⟨a0,a1,a2⟩:=Xk HX;have hvl:=h.hB.vlen;have hn:=h.hB.hn;obtain ⟨v0,hv0⟩ : ∃v0,v0=vl.getD 0 0:=⟨_,rfl⟩
 rw [<-hv0];clear h hL HX
 go_enter Tryz.func12,Tryz.ntmps12
 go_wp2_with fail;refine (hop.out _ hE0).mono ?_;rintro e W1 ⟨bq,vv,rfl,hO,hR,hE1⟩;obtain ⟨c0,c1,c2,c3⟩:=Kdu hO;obtain ⟨sa,gb,go,cap,rfl,hc,hS⟩:=hR;have k0:=hS.cell 0 (.int .i64 v0) (by rw [Qg (show 0<vl.length by omega),hv0,Ka (show 0<vl.length by omega)]);obtain rfl:=hS.addr (by simp;omega);rw [Nat.add_zero] at k0;rw [hvl] at c3;have hn0:0<n:=by omega
 have hEr:=hE0.trans hE1;clear hO hS hop hvl hn hv0;go_wp2_with fail;go_ret2;exact ⟨rfl,hEr⟩
theorem Kis (h:FkB w n cp m cu gm sp vo P M O vl) (hL:Laid w) :
  Calls Tryz.prog 13 #[bkv n cp m cu gm sp vo] w (KfS w n M O vl):=by
 have hop:=hid (λW (hW:Ext w W)=>Kgk (h.ext hW) (hL.ext hW));have HX:=KcV w 34 (.slice sp n cp) (.slice (some ⟨gm,0,none⟩) m cu) vo;have hE0:Ext w (w.alloc (.cells #[.slice sp n cp,.slice (some ⟨gm,0,none⟩) m cu,vo] 34)):=(Ext.refl w).alloc _;obtain ⟨a0,a1,a2⟩:=Xk HX;have H:=hid h;have HL:=hid hL;clear h hL HX
 go_enter Tryz.func13,Tryz.ntmps13
 go_wp2_with fail;refine (hop.out _ hE0).mono ?_;rintro e W1 ⟨bq,vv,rfl,hO,hR,hE1⟩;have hEr:=hE0.trans hE1;have hdg:=hid (KaK (H.out.opened hEr hO hR) (HL.out.ext hEr));clear hO hR hop;go_wp2_with fail;refine hdg.out.mono ?_;rintro e W2 ⟨v,L,rfl,hl,hD,hM,hE2⟩;have hres:=hid (show KfS w n M O vl (.returned (.tuple #[v,.int .i64 0])) W2 from ⟨v,L,rfl,hl,hD,hM.mono hEr.size,hEr.trans hE2⟩);clear hl hD hM;go_wp2_with fail;go_ret2;exact hres.out
theorem Kfm {W:World} {b:Nat} {x y z:Int} (c0:W.cell? ⟨b,0,none⟩=some (.int .i64 x)) (c1:W.cell? ⟨b,1,none⟩=some (.int .i64 y)) (c2:W.cell? ⟨b,2,none⟩=some (.int .i64 z)):KT W (.slice (some ⟨b,0,none⟩) 3 3) [x,y,z] :=
 ⟨_,b,0,3,rfl,Nat.le_refl _,λ_=>rfl,λi v hv=>by
  match i,hv with
  | 0,hv=>simp [is] at hv;rw [<-hv];exact c0
  | 1,hv=>simp [is] at hv;rw [<-hv];exact c1
  | 2,hv=>simp [is] at hv;rw [<-hv];exact c2
  | i+3,hv=>simp [is] at hv⟩
theorem Kq2 {W:World} {b:Nat} {v1 v2:Value} {r1 r2:List Int} (c0:W.cell? ⟨b,0,none⟩=some v1) (c1:W.cell? ⟨b,1,none⟩=some v2) (R1:KT W v1 r1) (R2:KT W v2 r2):KJ W (.slice (some ⟨b,0,none⟩) 2 2) [r1,r2] :=
 ⟨_,b,0,2,[v1,v2],rfl,Nat.le_refl _,rfl,⟨λ_=>rfl,λi v hv=>by
  match i,hv with
  | 0,hv=>simp at hv;rw [<-hv];exact c0
  | 1,hv=>simp at hv;rw [<-hv];exact c1
  | i+2,hv=>simp at hv⟩,λi h h'=>by
  match i,h with
  | 0,_=>exact R1
  | 1,_=>exact R2⟩
def knM:Mx:=[[-4,4,-1],[7,0,-3]]
theorem KjV:BkM 3 knM [12,19,28]:=by
 have h:=BkM.mk' (n:=3) (M:=knM) (.inr rfl) rfl (by unfold Ku knM;decide) (by unfold knM;decide) (by decide +kernel) (by decide +kernel);have e:ZZ 3 knM=[12,19,28]:=by decide +kernel
 rw [e] at h;exact h
theorem KmT (j:Nat):QQ [0,0] j=0:=by
 unfold QQ;split
 ·rfl
 ·match j with
  | 0=>rfl
  | 1=>rfl
  | 2=>rfl
  | j+3=>rfl
theorem KoA {X:List Int} {c:Nat->Rat} (hc:CoV 3 knM (λi=>((X.getD i 0:Int):Rat)) c) (hs:KD (λi=>([12,19,28]:List Int).getD i 0*X.getD i 0) 3=0):rdL 3 knM [0,0] X c=[0,0,0]:=by
 have h1:=KjV.eqv [0,0] (x:=λi=>X.getD i 0) hc hs;have h2:=KjV.steps [0,0] (λi=>X.getD i 0) c;have hy:=Kj7 [0,0] (x:=λi=>X.getD i 0) hc;obtain ⟨e0,e1,e2⟩:=hy.e3;have hf:=KjV.first hy;have r1:=Kd6 [0,0] c 1;have r2:=Kd6 [0,0] c 2;rw [KmT] at r1 r2;rw [hs] at h2;have hq:qE [0,0] c 0=0:=by rw [h1];rfl
 rw [hq] at h2;obtain ⟨y,hyq⟩ : ∃y:Nat->Int,y=Kcb 3 knM [0,0] (λi=>X.getD i 0) c:=⟨_,rfl⟩
 have hl:rdL 3 knM [0,0] X c=[y 0,y 1,y 2]:=by rw [hyq];rfl
 rw [<-hyq] at e0 e1 e2 h2 hf;have s2:0+12*y 0+19*y 1+28*y 2=0-0*12:=h2;have f2:((12:Int):Rat)*(c 0-((qE [0,0] c 0:Int):Rat))=0+((12:Int):Rat)*((y 0:Int):Rat)+((19:Int):Rat)*((y 1:Int):Rat)+((28:Int):Rat)*((y 2:Int):Rat):=hf
 have s3:((12*y 0+19*y 1+28*y 2:Int):Rat)=0:=by
  rw [show 12*y 0+19*y 1+28*y 2=0 by omega];rfl
 rw [Rat.intCast_add,Rat.intCast_add,Rat.intCast_mul,Rat.intCast_mul,Rat.intCast_mul] at s3
 have k0:c 0-((qE [0,0] c 0:Int):Rat)=0:=by
  have:((12:Int):Rat)=12:=rfl
  grind
 have e0:(c 0-((qE [0,0] c 0:Int):Rat))+((-4:Int):Rat)*(c 1-((qE [0,0] c 1:Int):Rat))+((7:Int):Rat)*(c 2-((qE [0,0] c 2:Int):Rat))=((y 0:Int):Rat):=e0;have e1:((4:Int):Rat)*(c 1-((qE [0,0] c 1:Int):Rat))+((0:Int):Rat)*(c 2-((qE [0,0] c 2:Int):Rat))=((y 1:Int):Rat):=e1;have e2:((-1:Int):Rat)*(c 1-((qE [0,0] c 1:Int):Rat))+((-3:Int):Rat)*(c 2-((qE [0,0] c 2:Int):Rat))=((y 2:Int):Rat):=e2;have n4:((-4:Int):Rat) = -4:=rfl;have p4:((4:Int):Rat)=4:=rfl;have p7:((7:Int):Rat)=7:=rfl;have p0:((0:Int):Rat)=0:=rfl;have n1:((-1:Int):Rat) = -1:=rfl;have n3:((-3:Int):Rat) = -3:=rfl;rw [n4,p7] at e0;rw [p4,p0] at e1;rw [n1,n3] at e2;have lo : ∀(z k:Int),((k:Int):Rat)<((z:Int):Rat)->k<z:=λz k h=>Rat.intCast_lt_intCast.1 h
 have b1 : -1<y 1:=lo _ _ (by have:((-1:Int):Rat) = -1:=rfl;grind);have b2:y 1<4:=lo _ _ (by grind);have b3 : -4<y 0:=lo _ _ (by grind);have b4:y 0<7:=lo _ _ (by grind);have b5 : -4<y 2:=lo _ _ (by grind);have b6:y 2<1:=lo _ _ (by have:((1:Int):Rat)=1:=rfl;grind);have z1:y 1=0:=by omega
 have z2:y 2=0:=by omega
 have z0:y 0=0:=by omega
 rw [hl,z0,z1,z2]
theorem Khn {w:World} (hL:Laid w):Calls Tryz.prog 5 #[] w λe w'=>e = .returned (.bool true)/\Ext w w':=by
 have hof:=hid (Kc8 (n:=0) (d:=1) (by omega) (by omega) (by omega) hL);have e1:qn 0 1=0:=by decide +kernel
 have e2:qd 0 1=1:=by decide +kernel
 rw [e1,e2] at hof;have HL:=hid hL;clear e1 e2 hL
 go_enter Tryz.func5,Tryz.ntmps5
 go_wp2_with fail;refine hof.out.mono ?_;rintro e X ⟨rfl,hE1⟩;go_upto_region 3 with fail;generalize hW:World.alloc (World.alloc (World.alloc (World.alloc (World.alloc (World.alloc (World.alloc X _) _) _) _) _) _) _=W at *;have EW:Ext w W:=by rw [<-hW];exact (((((((hE1.alloc _).alloc _).alloc _).alloc _).alloc _).alloc _).alloc _)
 have p0:W.cell? ⟨X.heap.size+1,0,none⟩=some (.int .i64 2):=by rw [<-hW];clear hW;go_simp
 have p1:W.cell? ⟨X.heap.size+1,1,none⟩=some (.int .i64 3):=by rw [<-hW];clear hW;go_simp
 have p2:W.cell? ⟨X.heap.size+1,2,none⟩=some (.int .i64 5):=by rw [<-hW];clear hW;go_simp
 have r0:W.cell? ⟨X.heap.size+1+1,0,none⟩=some (.int .i64 (-4)):=by rw [<-hW];clear hW;go_simp
 have r1:W.cell? ⟨X.heap.size+1+1,1,none⟩=some (.int .i64 4):=by rw [<-hW];clear hW;go_simp
 have r2:W.cell? ⟨X.heap.size+1+1,2,none⟩=some (.int .i64 (-1)):=by rw [<-hW];clear hW;go_simp
 have s0:W.cell? ⟨X.heap.size+1+1+1,0,none⟩=some (.int .i64 7):=by rw [<-hW];clear hW;go_simp
 have s1:W.cell? ⟨X.heap.size+1+1+1,1,none⟩=some (.int .i64 0):=by rw [<-hW];clear hW;go_simp
 have s2:W.cell? ⟨X.heap.size+1+1+1,2,none⟩=some (.int .i64 (-3)):=by rw [<-hW];clear hW;go_simp
 have m0:W.cell? ⟨X.heap.size+1+1+1+1,0,none⟩=some (.slice (some ⟨X.heap.size+1+1,0,none⟩) 3 3):=by rw [<-hW];clear hW;go_simp
 have m1:W.cell? ⟨X.heap.size+1+1+1+1,1,none⟩=some (.slice (some ⟨X.heap.size+1+1+1,0,none⟩) 3 3):=by rw [<-hW];clear hW;go_simp
 have o0:W.cell? ⟨X.heap.size+1+1+1+1+1,0,none⟩=some (I 0):=by rw [<-hW];clear hW;go_simp
 have o1:W.cell? ⟨X.heap.size+1+1+1+1+1,1,none⟩=some (I 1):=by rw [<-hW];clear hW;go_simp
 have o2:W.cell? ⟨X.heap.size+1+1+1+1+1,2,none⟩=some (I 0):=by rw [<-hW];clear hW;go_simp
 have o3:W.cell? ⟨X.heap.size+1+1+1+1+1,3,none⟩=some (I 1):=by rw [<-hW];clear hW;go_simp
 have b0:W.cell? ⟨X.heap.size+1+1+1+1+1+1,0,none⟩=some (.slice (some ⟨X.heap.size+1,0,none⟩) 3 3):=by rw [<-hW];clear hW;go_simp
 have b1:W.cell? ⟨X.heap.size+1+1+1+1+1+1,1,none⟩=some (.slice (some ⟨X.heap.size+1+1+1+1,0,none⟩) 2 2):=by rw [<-hW];clear hW;go_simp
 have b2:W.cell? ⟨X.heap.size+1+1+1+1+1+1,2,none⟩=some (.slice (some ⟨X.heap.size+1+1+1+1+1,0,none⟩) 2 2):=by rw [<-hW];clear hW;go_simp
 have HF:=hid (show FkB W 3 3 2 2 (X.heap.size+1+1+1+1) (some ⟨X.heap.size+1,0,none⟩) (.slice (some ⟨X.heap.size+1+1+1+1+1,0,none⟩) 2 2) [2,3,5] knM [0,0] [12,19,28] from
  ⟨Kfm p0 p1 p2,rfl,⟨by intro x hx;simp at hx;unfold SmP;omega,λi h=>by
   rcases (show i=0\/i=1 by simp at h;omega) with rfl | rfl
   ·show (2:Int)<3;omega
   ·show (3:Int)<5;omega⟩,Kq2 m0 m1 (Kfm r0 r1 r2) (Kfm s0 s1 s2),
   ⟨_,X.heap.size+1+1+1+1+1,0,2,rfl,by simp,λ_=>rfl,λi h=>by
    rcases (show i=0\/i=1 by simp at h;omega) with rfl | rfl
    ·exact ⟨o0,o1⟩
    ·exact ⟨o2,o3⟩⟩,rfl,λx hx=>by
     have:x=0:=by simpa using hx
     rw [this];exact NdQ.zero (by omega),λj=>by rw [KmT];constructor<;>decide,KjV⟩)
 generalize X.heap.size+1=q1 at *;generalize q1+1+1+1=q4 at *;generalize q4+1=q5 at *;generalize q5+1=q6 at *;clear hW p0 p1 p2 r0 r1 r2 s0 s1 s2 m0 m1 o0 o1 o2 o3 hof hE1;go_wp2_with fail;refine (KqC HF.out (HL.out.ext EW)).mono ?_;rintro e W1 ⟨v,rfl,hv,hE2⟩;have b0:=hE2.cell b0;have b1:=hE2.cell b1;have b2:=hE2.cell b2;have EW1:=EW.trans hE2;have HF1:=hid (HF.out.ext hE2);have Hv:=hid hv;clear hv hE2 HF EW;go_wp2_with fail;refine (Km9 HF1.out (HL.out.ext EW1)).mono ?_;rintro e W2 ⟨rfl,hE2⟩;have b0:=hE2.cell b0;have b1:=hE2.cell b1;have b2:=hE2.cell b2;have EW2:=EW1.trans hE2;have HF2:=hid (HF1.out.ext hE2);have Hv2:=hid (Hv.out.ext hE2);rw [show ([12,19,28]:List Int).getD 0 0=12 from rfl];clear hE2 HF1 EW1 Hv;go_wp2_with fail;refine (Kis HF2.out (HL.out.ext EW2)).mono ?_;rintro e W3 ⟨vd,L,rfl,hl,hD,hM,hE2⟩;have hl12:L.length=12:=by rw [hl];rfl
 obtain ⟨X0,c0,_,hc0,hs0,hL0⟩:=hD 0 (by omega);have hz0:=KoA hc0 hs0;rw [hz0] at hL0;obtain ⟨vs,h1,h2,h3⟩:=hM;have hr0:=(h3 0 (by omega) (by omega)).row;rw [hL0] at hr0
 have hd0 : ∃gd cd,vd=slv gd 12 cd/\W3.cell? ⟨gd,0,none⟩=some (vs[0]'(by omega)):=by
  rcases h2.2 with ⟨_,h0⟩ | ⟨g,cap,cur,e,_⟩
  ·omega
  ·subst e;have h4:=World.ownsRow.cellAt h2 0 (by omega);rw [List.getElem?_eq_getElem (by omega)] at h4;exact ⟨g,cap,by rw [hl12],h4⟩
 obtain ⟨gd,cd,rfl,hd0⟩:=hd0;obtain ⟨sr,gr,or,cr,hrv,_,_⟩:=hr0;have hr0':=hid (show KT W3 (vs[0]'(by omega)) [0,0,0] from by rw [hrv];exact ⟨sr,gr,or,cr,rfl,by assumption,by assumption⟩);generalize vs[0]'(by omega)=rv at *;subst hrv;have EW3:=EW2.trans hE2;have Hv3:=hid (Hv2.out.ext hE2);have eA:Ext W3 (W3.alloc (.cells #[.int .i64 12,.int .i64 19,.int .i64 28] 3)):=(Ext.refl W3).alloc _;have hsm:=hid (Kdn (w:=W3.alloc (.cells #[.int .i64 12,.int .i64 19,.int .i64 28] 3)) (Hv3.out.ext eA) (Kfm (b:=W3.heap.size) (x:=12) (y:=19) (z:=28) (by go_simp) (by go_simp) (by go_simp)) (by simp));rw [decide_eq_true rfl] at hsm;have hd0:=eA.cell hd0;clear hD h1 h2 h3 hl hl12 hE2 HF2 Hv2 hs0 hc0 hL0;go_wp2_with fail;refine hsm.out.mono ?_;rintro e W4 ⟨rfl,hE4⟩;have hd0:=hE4.cell hd0;have eB:=eA.trans hE4;have eC:=eB.alloc (.cells #[.int .i64 0,.int .i64 0,.int .i64 0] 3);have hsm2:=hid (Kdn (w:=W4.alloc (.cells #[.int .i64 0,.int .i64 0,.int .i64 0] 3)) (hr0'.out.ext eC) (Kfm (b:=W4.heap.size) (x:=0) (y:=0) (z:=0) (by go_simp) (by go_simp) (by go_simp)) (by simp));rw [decide_eq_true rfl] at hsm2;clear hsm;go_wp2_with fail;refine hsm2.out.mono ?_;rintro e W5 ⟨rfl,hE5⟩;have hEr:=EW3.trans (eC.trans hE5);go_wp2_with fail;go_ret;exact ⟨rfl,hEr⟩
end
end Go.Proofs.YtdmaofimeknkbaaGreatDoor
