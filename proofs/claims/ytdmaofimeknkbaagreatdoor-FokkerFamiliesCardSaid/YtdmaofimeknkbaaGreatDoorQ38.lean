/- Part 38 of the proof of the claim: contracts of the functions that it reaches, and plain laws; no condition. -/
import Derived.Test.YtdmaofimeknkbaaGreatDoorQ35
import Derived.Test.YtdmaofimeknkbaaGreatDoorQ12
import Derived.Test.YtdmaofimeknkbaaGreatDoorQ37
import Derived.Test.YtdmaofimeknkbaaGreatDoorQ27
import Derived.Test.YtdmaofimeknkbaaGreatDoorQ18
import Derived.Test.YtdmaofimeknkbaaGreatDoorQ33
import Derived.Test.YtdmaofimeknkbaaGreatDoorQ34
import Derived.Test.YtdmaofimeknkbaaGreatDoorQ26
set_option maxRecDepth 100000
set_option maxHeartbeats 20000000
namespace Go.Proofs.YtdmaofimeknkbaaGreatDoor
section
open Go.RowKit Go.Sort
open Lib (hid)
def rqR (r:List Int):List Rat:=r.map λz:Int=>(z:Rat)
@[simp] theorem ZV (r:List Int):(rqR r).length=r.length:=by simp [rqR]
theorem Knu (r:List Int) (z:Int):rqR r++[(z:Rat)]=rqR (r++[z]):=by simp [rqR]
def rqM (M:Mx):Mq:=M.map rqR
@[simp] theorem Zf (M:Mx):(rqM M).length=M.length:=by simp [rqM]
theorem QgX.lt {B:Nat} {w:World} {v:Value} {F:Mq} {ad:List (Nat×Nat)} (h:QgX B w v F ad) : ∀i (_:i<ad.length) (_:i<F.length),0<F[i].length->B<=ad[i].1/\ad[i].1<w.heap.size :=
 λi a b c=>(h.row i b a c).lt
theorem KeB {B:Nat} {w:World} {g c n:Nat} {l:List Rat} (h:SzV B w (slv g n c) l) (hn:l.length=n):OwQ B w g c l:=by
 subst hn;exact h
theorem KeC {B:Nat} {w:World} {v:Value} {l:List Rat} (h:SzV B w v l) (h0:0<l.length) : ∃g c,v=slv g l.length c:=by
 rcases h.2 with ⟨_,hn⟩ | ⟨g,cap,cur,rfl,_⟩
 ·omega
 ·exact ⟨g,cap,rfl⟩
theorem Kjc {M:Mx} {i:Nat} (h:i<M.length):rqM (M.take (i+1))=rqM (M.take i)++[rqR M[i]]:=by
 unfold rqM;rw [List.take_succ_eq_append_getElem h,List.map_append];rfl
theorem Kgs (w:World) (i:Int):Calls Tryz.prog 50 #[.int .i64 i] w λe w'=>e = .returned (.slice none 0 0)/\Ext w w':=by
 go_enter Tryz.func50,Tryz.ntmps50
 go_wp2_with fail;go_ret;exact ⟨rfl,Ext.refl _⟩
def Kn3 (w:World) (M:Mx) (e:Ending) (w':World):Prop := ∃v ad,e = .returned v/\QgX w.heap.size w' v (rqM M) ad/\Ext w w'
theorem KlC {w:World} {v:Value} {M:Mx} {n:Nat} (hM:KJ w v M) (hR:Ku n M) (h0:0<n) (hl:M.length<=1000000) (hn:n<=1000000) (h64 : ∀r∈M,∀z∈r,I64 z) (hL:Laid w) :
  Calls Tryz.prog 49 #[v,.func (.func 50) #[] #[]] w (Kn3 w M):=by
 obtain ⟨sa,gb,go,cap,vs,rfl,hcap,hvl,hS,hr⟩:=hM;have HS:=hid hS;have HV:=hid hvl;have HR:=hid hr;have HRe:=hid hR;have H64:=hid h64;have HL:=hid hL;clear hS hvl hr hR h64 hL
 go_enter Tryz.func49,Tryz.ntmps49
 go_wp2_with fail
 go_loopw [5,13] (λout idx wr => ∃(i:Nat) (ad:List (Nat×Nat)),i<=M.length/\idx = .int .i64 i/\Hid (QgX w.heap.size wr out (rqM (M.take i)) ad)/\Ext w wr) (λ_ idx _=>M.length-(intOf idx).toNat)
 case atStart=>exact ⟨0,[],by omega,by go_num,hid (QgX.nil _ _),Ext.refl _⟩
 case round =>
  obtain ⟨i,ad,hi',rfl,hV,hE⟩:=hrel;generalize wr=X at *
  by_cases hlt:i<M.length
  ·have hii:(i:Int)<(M.length:Int):=by omega
   obtain rfl:=HS.out.addr (by rw [HV.out];omega);obtain ⟨sr,br,or,cr,hrow,hrc,hSr⟩:=KJ.row HS.out HV.out HR.out hlt;obtain ⟨r,hr⟩ : ∃r,r=M[i]:=⟨_,rfl⟩
   have hrn:r.length=n:=by rw [hr];exact HRe.out _ (List.getElem_mem hlt)
   have hr64:=hid (show ∀z∈r,I64 z by rw [hr];exact H64.out _ (List.getElem_mem hlt));have Hsn:=hid (Kjc hlt);rw [<-hr] at hrow hrc hSr Hsn;have hrow':=hE.cell hrow;have HSr:=hid (hSr.ext hE);have Hil:=hid (show (rqM (M.take i)).length=i by rw [Zf,List.length_take];omega);have Hlt:=hid hV.out.lt;obtain ⟨ga,gc,hout,_,_⟩:=hV.out.shape;rw [Hil.out] at hout;subst hout;have hXw:=hE.size;have Hrn:=hid hrn;rw [hrn] at hrow' hrc;have HE:=hid hE;clear hrow hSr hr hrn hE;go_wp2_with fail
   go_loopw [8,20] (λlv idx wr => ∃(j:Nat),j<=n/\idx = .int .i64 j/\Hid (SzV X.heap.size wr lv (rqR (r.take j)))/\Ext X wr) (λ_ idx _=>n-(intOf idx).toNat)
   case atStart=>exact ⟨0,by omega,by go_num,hid (SzV.nil _ _),Ext.refl _⟩
   case round =>
    obtain ⟨j,hj',rfl,hW,hEj⟩:=hrel;generalize wr=Y at *
    by_cases hjn:j<n
    ·have hji:(j:Int)<(n:Int):=by omega
     have hjr:j<r.length:=by rw [Hrn.out];exact hjn
     obtain ⟨z,hz⟩ : ∃z,z=r[j]:=⟨_,rfl⟩
     have hcz:=hEj.cell (HSr.out.cell j (.int .i64 z) (by rw [hz];exact Qg hjr));obtain rfl:=HSr.out.addr (by simp;omega);have hz64:=hr64.out z (by rw [hz];exact List.getElem_mem hjr);have hof:=hid (Qb (n:=z) (w:=Y) hz64.1 hz64.2 (HL.out.ext (HE.out.trans hEj)));have Hjl:=hid (show (rqR (r.take j)).length=j by rw [ZV,List.length_take];omega);have Hsj:=hid (show rqR (r.take (j+1))=rqR (r.take j)++[(z:Rat)] by rw [List.take_succ_eq_append_getElem hjr,hz,Knu]);have hYs:=hEj.size;have hI1:Value.string ⟨#[49]⟩=I 1:=by unfold I S;rw [Yl]
     have HI1:=hid hI1;clear hz hz64 hjr hI1;go_wp2_with fail;refine hof.out.mono ?_;rintro e W ⟨rfl,hW2⟩;have hYW:=hW2.size;have hEW:=hEj.trans hW2;have HW:=hid (hW.out.ext hW2);clear hW hof hW2 hcz;go_wp2_with (at_builtin;refine KfY rfl _ _ 32 Tryz.underlying32 rfl rfl (HW.out.ext ((Ext.refl _).alloc _)) (b:=W.heap.size) rfl (r:=(z:Rat)) (by go_simp) (by rw [HI1.out];go_simp) (by rw [Hjl.out];omega) (by simp;omega) ?_;intro gg cap2 w8 hO8 hB8 hG8;rw [Hjl.out] at hO8 ⊢;rw [<-Hsj.out] at hO8)
     have hE8:Ext X w8:=Below.trans (hEW.alloc _) hB8;have HO8:=hid hO8;clear hG8 hB8 hO8;go_wp2_with fail;go_roundw
     case rel=>exact ⟨j+1,by omega,by go_num,HO8,hE8⟩
     case measure=>simp [intOf]<;>omega
    ·obtain rfl:j=n:=by omega
     rename_i lv _ _ _ _
     have hW2:=hW.out;rw [List.take_of_length_le (by rw [Hrn.out];omega)] at hW2;obtain ⟨gl,cl,hlv⟩:=KeC hW2 (by rw [ZV,Hrn.out];exact h0);rw [ZV,Hrn.out] at hlv;subst hlv;have HO:=hid (KeB hW2 (by rw [ZV,Hrn.out]));clear hW hW2;go_wp2_with fail;refine (Kgs Y i).mono ?_;rintro e Y2 ⟨rfl,hE4⟩;have HO2:=hid (HO.out.ext hE4);have hEw:=HE.out.trans (hEj.trans hE4)
     have Hne:=hid (show 0<(rqR r).length -> ∀t (h:t<ad.length) (h':t<(rqM (M.take i)).length),0<(rqM (M.take i))[t].length->ad[t].1≠gl from λ_ t a b c=>by
      have h1:=HO2.out.lt.1;have h2:=(Hlt.out t a b c).2
      omega)
     have HV2:=hid ((hV.out.ext (hEj.trans hE4)));have hWs:=hEw.size;have hjcl:j<=cl:=by have:=HO2.out.cap;rw [ZV,Hrn.out] at this;exact this
     have hjcl2:(j:Int)<=(cl:Int):=by omega
     have HrL:=hid (show (rqR r).length=j by rw [ZV,Hrn.out]);clear HO hV;go_wp2_with (at_builtin;refine KpG rfl _ _ rfl (B:=w.heap.size) rfl (HV2.out.ext ((Ext.refl _).alloc _)) rfl (b:=Y2.heap.size) (r:=rqR r) (g0:=gl) (c0:=cl) (by rw [HrL.out,Qo h0];go_simp) (λ_=>(HO2.out.mono hXw).ext ((Ext.refl _).alloc _)) Hne.out (by rw [Hil.out];omega) (by simp;omega) ?_;intro gg cap2 w8 hO8 hB8 hG8;rw [Hil.out,<-Hsn.out] at hO8;rw [Hil.out])
     have hE8:Ext w w8:=Below.trans (hEw.alloc _) hB8;have HO8:=hid hO8;clear hG8 hB8 hO8;go_wp2_with fail;go_roundw
     case rel=>exact ⟨i+1,_,by omega,by go_num,HO8,hE8⟩
     case measure=>simp [intOf]<;>omega
  ·have hie:i=M.length:=by omega
   subst hie;have HF:=hid (show QgX w.heap.size X _ (rqM M) ad by have:=hV.out;rw [List.take_length] at this;exact this);go_wp2_with fail;go_ret;exact ⟨_,ad,rfl,HF.out,hE⟩
theorem Knt {n:Nat} {M:Mx} (h:Ku n M):QG n (rqM M):=λr hr=>by
 obtain ⟨s,hs,rfl⟩:=List.mem_map.1 hr;rw [ZV];exact h s hs
theorem Kqs {M:Mx} (h : ∀r∈M,∀z∈r,-1000000000<=z/\z<=1000000000):BdQ 31 (rqM M):=λr hr x hx=>by
 obtain ⟨s,hs,rfl⟩:=List.mem_map.1 hr;obtain ⟨z,hz,rfl⟩:=List.mem_map.1 hx;have h1:=h s hs z hz;exact NdQ.of_int (Kv (E:=30) (by omega))
theorem Kl3 {k:Nat} (h:k<=6):(k+6)*bnd 31 k+1<=100000000:=by
 have h1:=ZM 31 h;have h2:bnd 31 6=1455667:=by decide
 have h3:(k+6)*bnd 31 k<=12*bnd 31 6:=Nat.mul_le_mul (by omega) h1;omega
def Kn2 (w:World) (M:Mx) (e:Ending) (w':World):Prop:=(∃(lead:List Nat) (F':Mq),e = .returned (.tuple #[.int .i64 lead.length,.int .i64 0])/\RrI M.length (KX M) (KX M) F' lead/\Q2 (KX M) (rqM M) F')/\Ext w w'
theorem KlB {w:World} {v:Value} {M:Mx} (hM:KJ w v M) (hck:Qr M=0) (h0:0<M.length) (hn0:0<KX M) (hn6:KX M<=6) (hL:Laid w) :
  Calls Tryz.prog 28 #[v] w (Kn2 w M):=by
 obtain ⟨h12,_,hR,hB⟩:=Kal hck;have hc:=Xf hM;rw [hck] at hc;have hcol:=hid (λX (hX:Ext w X)=>KgU (hM.ext hX));have hrw:=hid (λX (hX:Ext w X)=>KlC (n:=KX M) (hM.ext hX) hR hn0 (by omega) (by omega) (λr hr z hz=>by have:=hB r hr z hz;unfold I64;omega) (hL.ext hX));have hrd:=hid (λ(X Y:World) (g cap:Nat) ad (hG:QgX X.heap.size Y (slv g (rqM M).length cap) (rqM M) ad) (hE0:Ext w X) (hE:Ext X Y)=>Kh9 (cols:=KX M) (E:=31) hG (Knt hR) hn0 (Nat.le_refl _) (Kqs hB) (by omega) (Kl3 hn6) (by omega) (by rw [Zf];omega) (hL.ext hE0) hE);have Hc:=hid hc;clear hck hR hB hL hc
 go_enter Tryz.func28,Tryz.ntmps28
 go_wp2_with fail;refine Hc.out.mono ?_;rintro e X ⟨rfl,hE1⟩;go_wp2_with fail;refine (hrw.out _ hE1).mono ?_;rintro e X2 ⟨u,ad,rfl,hG,hE2⟩;obtain ⟨ga,gc,rfl,_,hg⟩:=hG.shape;obtain ⟨g,rfl⟩:=hg (by rw [Zf];exact h0);have HG:=hid hG;clear hG hrw;go_wp2_with fail;refine (hcol.out _ (hE1.trans hE2)).mono ?_;rintro e X3 ⟨rfl,hE3⟩;have HR0:=hrd.out X X3 g gc ad (HG.out.ext hE3) hE1 (hE2.trans hE3);rw [Zf] at HR0;have HR:=hid HR0;clear HR0;clear hrd HG hcol;go_wp2_with fail;refine HR.out.mono ?_;rintro e X4 ⟨lead,F',ad',det,lv,rfl,_,hI,hS,_,hlv,hE4⟩;obtain ⟨la,lc,rfl⟩:=hlv.shapeQ;rw [KaW];rw [Zf] at hI;have HI:=hid hI;have HS:=hid hS;have hal : ∀O,Ext w (X4.alloc O):=λO=>(hE1.trans hE4).alloc O
 clear hI hS hlv HR;go_wp2_with fail;go_ret2;exact ⟨⟨lead,F',rfl,HI.out,HS.out⟩,hal _⟩
theorem Kng (M:Mx) (i j:Nat):qa (rqM M) i j=(((M.getD i []).getD j 0:Int):Rat):=by
 unfold qa rqM
 have h1:(M.map rqR).getD i []=rqR (M.getD i []):=by
  rw [List.getD_eq_getElem?_getD,List.getD_eq_getElem?_getD,List.getElem?_map]
  cases M[i]?<;>rfl
 rw [h1];generalize M.getD i []=r;unfold rqR;rw [List.getD_eq_getElem?_getD,List.getD_eq_getElem?_getD,List.getElem?_map]
 cases r[j]?<;>rfl
theorem KjT {F:Mq} {y:Nat->Rat} (h:KcS 2 F y) {i:Nat} (hi:i<F.length):qa F i 0*y 0+qa F i 1*y 1=0:=by
 have h1:0+qa F i 0*y 0+qa F i 1*y 1=0:=h i hi
 grind
theorem KjU {F:Mq} {y:Nat->Rat} (h:KcS 3 F y) {i:Nat} (hi:i<F.length):qa F i 0*y 0+qa F i 1*y 1+qa F i 2*y 2=0:=by
 have h1:0+qa F i 0*y 0+qa F i 1*y 1+qa F i 2*y 2=0:=h i hi
 grind
theorem KqW {M:Mx} {F':Mq} {lead:List Nat} (hl:M.length=1) (hv:(M.getD 0 []).getD 1 0≠0) (hI:RrI 1 2 2 F' lead) (hS:Q2 2 (rqM M) F'):lead.length=1:=by
 refine hI.full rfl (by omega) λy z hy hz => ?_
 have h1:=KjT ((hS.2 y).2 hy) (i:=0) (by rw [Zf];omega);have h2:=KjT ((hS.2 z).2 hz) (i:=0) (by rw [Zf];omega)
 have hq:qa (rqM M) 0 1≠0:=by
  rw [Kng];exact_mod_cast hv
 have h3:=Kq0 (.inr hq) h1 h2;intro i j hi hj;have hi2:i=0\/i=1:=by omega
 have hj2:j=0\/j=1:=by omega
 rcases hi2 with rfl | rfl<;>rcases hj2 with rfl | rfl<;>grind
theorem KqX {M:Mx} {F':Mq} {lead:List Nat} (hl:M.length=2) (hv:(M.getD 0 []).getD 1 0*(M.getD 1 []).getD 2 0-(M.getD 0 []).getD 2 0*(M.getD 1 []).getD 1 0≠0) (hI:RrI 2 3 3 F' lead) (hS:Q2 3 (rqM M) F'):lead.length=2:=by
 refine hI.full rfl (by omega) λy z hy hz => ?_
 have hq:qa (rqM M) 0 1*qa (rqM M) 1 2-qa (rqM M) 0 2*qa (rqM M) 1 1≠0:=by
  simp only [Kng];exact_mod_cast hv
 have key : ∀y:Nat->Rat,KcS 3 F' y -> ∀i,i<3->(λi=>if i=0 then qa (rqM M) 0 1*qa (rqM M) 1 2-qa (rqM M) 0 2*qa (rqM M) 1 1 else if i=1 then qa (rqM M) 0 2*qa (rqM M) 1 0-qa (rqM M) 0 0*qa (rqM M) 1 2 else qa (rqM M) 0 0*qa (rqM M) 1 1-qa (rqM M) 0 1*qa (rqM M) 1 0) 0*y i=(λi=>if i=0 then qa (rqM M) 0 1*qa (rqM M) 1 2-qa (rqM M) 0 2*qa (rqM M) 1 1 else if i=1 then qa (rqM M) 0 2*qa (rqM M) 1 0-qa (rqM M) 0 0*qa (rqM M) 1 2 else qa (rqM M) 0 0*qa (rqM M) 1 1-qa (rqM M) 0 1*qa (rqM M) 1 0) i*y 0:=λy hy i hi=>by
  have h1:=KjU ((hS.2 y).2 hy) (i:=0) (by rw [Zf];omega);have h2:=KjU ((hS.2 y).2 hy) (i:=1) (by rw [Zf];omega);have hi2:i=0\/i=1\/i=2:=by omega
  rcases hi2 with rfl | rfl | rfl
  ·rfl
  ·exact KqQ h1 h2
  ·exact KqR h1 h2
 exact KoE (v:=λi=>if i=0 then qa (rqM M) 0 1*qa (rqM M) 1 2-qa (rqM M) 0 2*qa (rqM M) 1 1 else if i=1 then qa (rqM M) 0 2*qa (rqM M) 1 0-qa (rqM M) 0 0*qa (rqM M) 1 2 else qa (rqM M) 0 0*qa (rqM M) 1 1-qa (rqM M) 0 1*qa (rqM M) 1 0) hq (key y hy) (key z hz)
structure KlP (P:List Int):Prop where
 sm : ∀x∈P,SmP x
 inc : ∀i (h:i+1<P.length),P[i]'(by omega)<P[i+1]
def Kim (w:World) (vp vu vo:Value) (vl:List Int) (e:Ending) (w':World):Prop :=
 ∃(b:Nat) (vv:Value),e = .returned (.tuple #[.pointer (some ⟨b,0,none⟩),.int .i64 0])/\Kd 65 w.heap.size w' b 4 [vp,vu,vo,vv]/\KT w' vv vl/\Ext w w'
theorem Kga (w:World):Calls Tryz.prog 31 #[.int .i64 1] w λe w'=>e = .returned (.bool false)/\Ext w w':=by
 go_enter Tryz.func31,Tryz.ntmps31
 go_wp2_with fail;go_ret;exact ⟨rfl,Ext.refl _⟩
theorem Kgj {w:World} {u:Value} {D:List Int} {B:Nat} (hu:KH B w u D) (h1 : ∀z∈D,z=1) (hl:D.length<=3):Calls Tryz.prog 30 #[u,.func (.func 31) #[] #[]] w λe w'=>e = .returned (.bool false)/\Ext w w':=by
 obtain ⟨sa,gb,go,cap,rfl,hc,hS⟩:=hu.row
 have h:=KbT (cap:=cap) (p:=λ_=>false) hS (by rw [Kq];omega) (λk hk W hW=>by
  have hk':k<D.length:=by simpa using hk
  have e:(is D)[k] = .int .i64 1:=by
   have h2:=h1 _ (List.getElem_mem hk');simp [is,h2]
  rw [e];exact Kga W)
 rw [Kq,Ka5 (λ_ _=>rfl)] at h;exact h
theorem KcV (w:World) (T:TypeId) (a b c:Value):Kd T w.heap.size (w.alloc (.cells #[a,b,c] T)) w.heap.size 3 [a,b,c] :=
 Kd.of (Nat.le_refl _) Array.getElem?_push_size (by simp) (by unfold maxLen;omega) rfl rfl
theorem KqK (w:World) (a b c d:Value):Kd 65 w.heap.size (w.alloc (.cells #[a,b,c,d] 65)) w.heap.size 4 [a,b,c,d] :=
 Kd.of (Nat.le_refl _) Array.getElem?_push_size (by simp) (by unfold maxLen;omega) rfl rfl
theorem Xk {W:World} {T:TypeId} {g B:Nat} {a b c:Value} (h:Kd T B W g 3 [a,b,c]):W.cell? ⟨g,0,none⟩=some a/\W.cell? ⟨g,1,none⟩=some b/\W.cell? ⟨g,2,none⟩=some c :=
 ⟨h.cell (j:=0) (by simp),h.cell (j:=1) (by simp),h.cell (j:=2) (by simp)⟩
theorem Kdu {W:World} {T:TypeId} {g B:Nat} {a b c d:Value} (h:Kd T B W g 4 [a,b,c,d]):W.cell? ⟨g,0,none⟩=some a/\W.cell? ⟨g,1,none⟩=some b/\W.cell? ⟨g,2,none⟩=some c/\W.cell? ⟨g,3,none⟩=some d :=
 ⟨h.cell (j:=0) (by simp),h.cell (j:=1) (by simp),h.cell (j:=2) (by simp),h.cell (j:=3) (by simp)⟩
theorem Kl7 {W:World} {T:TypeId} {g B:Nat} {a b:Value} (h:Kd T B W g 2 [a,b]):W.cell? ⟨g,0,none⟩=some a/\W.cell? ⟨g,1,none⟩=some b/\W.frozen? ⟨g,0,none⟩=false/\W.frozen? ⟨g,1,none⟩=false :=
 ⟨h.cell (j:=0) (by simp),h.cell (j:=1) (by simp),h.frozen 0,h.frozen 1⟩
theorem BkM.full {n:Nat} {M:Mx} {vl:List Int} (h:BkM n M vl) {F':Mq} {lead:List Nat} (hI:RrI M.length (KX M) (KX M) F' lead) (hS:Q2 (KX M) (rqM M) F'):lead.length=M.length:=by
 have hz:=h.nz;have hl:=h.len;rw [h.nc] at hI hS
 rcases h.hn with rfl | rfl
 ·have e:M.length=1:=by omega
  rw [e] at hI ⊢;rw [Kb2,if_pos rfl] at hz;exact KqW e (by unfold eM at hz;omega) hI hS
 ·have e:M.length=2:=by omega
  rw [e] at hI ⊢;rw [(Kc0 M).1] at hz;exact KqX e (by unfold eM at hz;exact hz) hI hS
theorem Kpb {n:Nat} {M:Mx} {vl:List Int} (h:BkM n M vl):SmK [vl]:=λr hr z hz=>by
 rw [List.mem_singleton.1 hr] at hz;obtain ⟨i,hi,rfl⟩:=List.getElem_of_mem hz;have:=h.vb i;rw [Ka hi] at this;omega
theorem Kem {w:World} {n cp m cu gm:Nat} {sp:Option Addr} {vo:Value} {P:List Int} {M:Mx} {vl:List Int} (hP:KT w (.slice sp n cp) P) (hPl:P.length=n) (hpr:KlP P) (hM:KJ w (.slice (some ⟨gm,0,none⟩) m cu) M) (hB:BkM n M vl) (hL:Laid w) :
  Calls Tryz.prog 15 #[.agg #[.slice sp n cp,.slice (some ⟨gm,0,none⟩) m cu,vo]] w (Kim w (.slice sp n cp) (.slice (some ⟨gm,0,none⟩) m cu) vo vl):=by
 have hn:=hB.hn;have hMl:=hB.len
 have hml:m=M.length:=by
  obtain ⟨_,_,_,_,_,e,_⟩:=hM;injection e
 have h9 : ∀r∈M,∀z∈r,-9<=z/\z<=9:=λr hr z hz=>by have:=hB.bd r hr z hz;omega
 have hcheck:=hB.smf.check;have hpc:=hid (λW (hW:Ext w W)=>Kfq (hP.ext hW) (by omega) (by omega) hpr.sm hpr.inc)
 have hmc:=hid (λW (hW:Ext w W)=>Kgh (w:=W) (b:=gm) (m:=m) (cc:=cu) (xs:=M) (hP.ext hW) (by omega) (by omega) hpr.sm hpr.inc hml.symm (by omega) (λj hj=>by
  obtain ⟨sa,gb,go,cap,vs,e,hcap,hvl,hS,hr⟩:=hM.ext hW;injection e with e1 e2 e3
  have h0:=hS.addr (by omega);rw [<-e1] at h0;injection h0 with h0
  injection h0 with h0 h1
  subst h0 h1;refine ⟨vs[j]'(by omega),?_,hr j hj (by omega)⟩;have:=hS.cell j _ (List.getElem?_eq_getElem (by omega))
  rwa [Nat.zero_add] at this) (λx hx=>⟨by rw [hPl];exact hB.rect x hx,λz hz=>by have:=h9 x hx z hz;omega⟩))
 have hrk:=hid (λW (hW:Ext w W)=>KlB (hM.ext hW) hcheck (by omega) (by rw [hB.nc];omega) (by rw [hB.nc];omega) (hL.ext hW));have hfc:=hid (λW (hW:Ext w W)=>KkM hB (hM.ext hW) (hL.ext hW))
 have hsm : ∀F,Zs n M F->SmK F:=λK hK=>by
  have:=KkT (by omega) (λr hr z hz=>by have:=hB.bd r hr z hz;omega) hK
  exact λr hr z hz=>by
   have h2:=KpS this r hr z hz;omega
 have hof:=hid (λW (hW:Ext w W)=>KqI (hM.ext hW) (Krl hB.rect (by omega) h9) (by omega) (by omega) (by omega) (Kro h9) hsm (hL.ext hW))
 have hann:=hid (λW v F (hW:Ext w W) (hF:Zs n M F) (h:KJ W v F)=>by
  obtain ⟨ps,hI⟩:=hF.1
  exact KlU (w:=W) (v:=v) (F:=F) h hI (by omega) (by omega) (hsm F hF) (λK hK=>by rw [hB.ker_val (hK.of_form hF)];exact Kpb hB) (hL.ext hW))
 have hkv:=hid (λF K (hF:Zs n M F) (hK:KaO n (KF F) K)=>hB.ker_val (hK.of_form hF));have hfull:=hid (λF' lead=>hB.full (F':=F') (lead:=lead));have hvl:=hB.vlen;have hpos:=hB.pos;have hle:=hB.le;have HX:=hid (KcV w 34 (.slice sp n cp) (.slice (some ⟨gm,0,none⟩) m cu) vo);have hE0:Ext w (w.alloc (.cells #[.slice sp n cp,.slice (some ⟨gm,0,none⟩) m cu,vo] 34)):=(Ext.refl w).alloc _;obtain ⟨v0,hv0⟩ : ∃v0,v0=vl.getD 0 0:=⟨_,rfl⟩
 rw [<-hv0] at hpos hle;have Hv0:=hid hv0;have Hvl:=hid hvl;have hnm:n<=3:=by omega
 have hn2:2<=n:=by omega
 have hmn1:(m:Int)=(n:Int)-1:=by omega
 have Hmn:=hid hmn1;have HB:=hid hB;have Hml:=hid hml;have hm2:m<=2:=by omega
 clear hP hpr hM hB hL h9 hcheck hsm hvl hv0 hMl hml hPl hn hmn1;obtain ⟨b1,hb1⟩ : ∃b1,b1=w.heap.size:=⟨_,rfl⟩
 have hb1w:b1<(w.alloc (.cells #[.slice sp n cp,.slice (some ⟨gm,0,none⟩) m cu,vo] 34)).heap.size:=by simp;omega
 rw [show Kd 34 w.heap.size (w.alloc (.cells #[.slice sp n cp,.slice (some ⟨gm,0,none⟩) m cu,vo] 34)) w.heap.size 3 [.slice sp n cp,.slice (some ⟨gm,0,none⟩) m cu,vo]=Kd 34 w.heap.size (w.alloc (.cells #[.slice sp n cp,.slice (some ⟨gm,0,none⟩) m cu,vo] 34)) b1 3 [.slice sp n cp,.slice (some ⟨gm,0,none⟩) m cu,vo] by rw [hb1]] at HX
 go_enter Tryz.func15,Tryz.ntmps15
 go_upto_region 1 with fail;rw [<-hb1];clear hb1;generalize w.alloc (.cells #[.slice sp n cp,.slice (some ⟨gm,0,none⟩) m cu,vo] 34)=W0 at *;obtain ⟨a0,a1,a2⟩:=Xk HX.out;go_wp2_with fail;refine (hpc.out _ hE0).mono ?_;rintro e W1 ⟨rfl,hE1⟩;have a0:=hE1.cell a0;have a1:=hE1.cell a1;have a2:=hE1.cell a2;have e1:=hE0.trans hE1;have HX1:=hid (HX.out.ext hE1);have g1 : ¬(n:Int)<2:=by omega
 have g1b:decide ((n:Int)<2)=false:=decide_eq_false g1;have g2:IntKind.i64.wrap ((n:Int)-1)=(m:Int):=by rw [<-Hmn.out];exact IntWalk.i64_in _ (by omega)
 have g3:(n:Int)-1=(m:Int):=Hmn.out.symm;clear hE0 hE1 HX hpc;go_wp2_with fail;refine (hmc.out _ e1).mono ?_;rintro e W2 ⟨rfl,hE2⟩;have a0:=hE2.cell a0;have a1:=hE2.cell a1;have a2:=hE2.cell a2;have e2:=e1.trans hE2;clear e1 hE2 hmc HX1;go_wp2_with fail;refine (hrk.out _ e2).mono ?_;rintro e W3 ⟨⟨lead,F',rfl,hI,hS⟩,hE3⟩;have hll:=hfull.out _ _ hI hS;rw [hll,<-Hml.out];have a0:=hE3.cell a0;have a1:=hE3.cell a1;have a2:=hE3.cell a2;have e3:=e2.trans hE3;have g4 : ¬(m:Int)<(m:Int):=by omega
 clear hI hS hll e2 hE3 hrk hfull;go_wp2_with fail;refine (hfc.out _ e3).mono ?_;rintro e W4 ⟨u,D,rfl,hu,hD1,hD3,hE4⟩;have a0:=hE4.cell a0;have a1:=hE4.cell a1;have a2:=hE4.cell a2;have e4:=e3.trans hE4;have hct:=hid (Kgj hu hD1 hD3);clear hu hD1 hD3 e3 hE4 hfc;go_wp2_with fail;refine hct.out.mono ?_;rintro e W5 ⟨rfl,hE5⟩;have a0:=hE5.cell a0;have a1:=hE5.cell a1;have a2:=hE5.cell a2;have e5:=e4.trans hE5;clear e4 hE5 hct;go_wp2_with fail;refine (hof.out _ e5).mono ?_;rintro e W6 ⟨v6,F,rfl,hm6,hF,hE6⟩;obtain ⟨a6,l6,k6,rfl⟩:=hm6.slice;have a0:=hE6.cell a0;have a1:=hE6.cell a1;have a2:=hE6.cell a2;have e6:=e5.trans hE6;have eA:Ext W6 (W6.alloc (.cells #[.int .i64 n,.slice a6 l6 k6] 81)):=(Ext.refl W6).alloc _;have e6a:=e6.trans eA;have Hm6:=hid (hm6.mat.ext eA);have HF:=hid hF;have H11:=hid (Kb0 W6 81 (.int .i64 n) (.slice a6 l6 k6));have h11w:w.heap.size<=W6.heap.size:=e6.size;have h11b:b1<W6.heap.size:=World.block_lt_of_cell? _ _ a0;have a0:=eA.cell a0;have a1:=eA.cell a1;have a2:=eA.cell a2;clear hm6 hF e5 hE6 e6 eA hof;go_upto_region 17 with fail;generalize W6.alloc (.cells #[.int .i64 n,.slice a6 l6 k6] 81)=V6 at *;obtain ⟨b11,hb11⟩ : ∃b11,b11=W6.heap.size:=⟨_,rfl⟩
 rw [<-hb11] at H11 h11w h11b ⊢;have hb1n:b1≠b11:=by omega
 clear hb11;obtain ⟨m0,m1,f0,f1⟩:=Kl7 H11.out;go_wp2_with fail;refine (hann.out _ _ _ e6a HF.out Hm6.out).mono ?_;rintro e W7 ⟨v7,K,rfl,hm7,hK,hE7⟩;obtain rfl:=hkv.out F K HF.out hK;obtain ⟨a7,l7,k7,rfl⟩:=hm7.slice;have H7:=H11.out.ext hE7;obtain ⟨n0,n1,f0,f1⟩:=Kl7 H7;have e7:=e6a.trans hE7;obtain ⟨z1,g1⟩:=Kre H7 (.int .i64 n) (.slice a7 l7 k7);have e8:=hid (Kb e7 g1 h11w);have Hm8:=hid (Zn hm7 H7 (by decide) (by decide) g1).mat;have Hz:=hid z1;have a0:=hE7.cell a0;have a1:=hE7.cell a1;have a2:=hE7.cell a2;have hne:W7.heap.size=W7.heap.size:=rfl
 obtain ⟨a0',a1',a2'⟩:((W7.setCell ⟨b11,0,none⟩ (.int .i64 n)).setCell ⟨b11,1,none⟩ (.slice a7 l7 k7)).cell? ⟨b1,0,none⟩=some (.slice sp n cp)/\((W7.setCell ⟨b11,0,none⟩ (.int .i64 n)).setCell ⟨b11,1,none⟩ (.slice a7 l7 k7)).cell? ⟨b1,1,none⟩=some (.slice (some ⟨gm,0,none⟩) m cu)/\((W7.setCell ⟨b11,0,none⟩ (.int .i64 n)).setCell ⟨b11,1,none⟩ (.slice a7 l7 k7)).cell? ⟨b1,2,none⟩=some vo :=
  ⟨Kl g1 hb1n a0,Kl g1 hb1n a1,Kl g1 hb1n a2⟩
 clear hm7 hK hE7 H7 e7 z1 g1 e6a hann hkv hne H11 Hm6 HF m0 m1;go_upto_region 19 with fail;generalize World.setCell (World.setCell W7 _ _) _ _=W8 at *;obtain ⟨c0,c1,_,_⟩:=Kl7 Hz.out
 have hl7:l7=1:=by
  obtain ⟨_,_,_,_,_,e,_⟩:=Hm8.out;injection e
 subst hl7;obtain ⟨gk,ok,hak,hrow⟩:=KJ.elZ (c:=n) Hm8.out rfl (λr hr=>by rw [List.mem_singleton.1 hr];exact Hvl.out) (by omega);obtain rfl:=hak (by omega);obtain ⟨gr,or,cr,r0,rk⟩:=hrow 0 (by omega);have rv:=rk 0 (by omega);have hv0':eM [vl] 0 0=v0:=Hv0.out.symm;rw [hv0',Nat.add_zero] at rv;rw [Nat.add_zero] at r0
 have Hrow:=hid (show KT W8 (.slice (some ⟨gr,or,none⟩) n cr) vl from by
  obtain ⟨sa,gb,go,cap,vs,e,hcap,hvs,hS,hr⟩:=Hm8.out;injection e with e1 e2 e3
  have h0:=hS.addr (by simp at hvs;omega);rw [<-e1] at h0;injection h0 with h0
  injection h0 with h0 h1
  subst h0 h1;have h2:=hS.cell 0 _ (List.getElem?_eq_getElem (by simp at hvs;omega));rw [Nat.add_zero,r0] at h2;have h3:=hr 0 (by simp) (by simp at hvs;omega);rw [<-Option.some.inj h2] at h3
  exact h3)
 have p1 : ¬v0=0:=by omega
 have p1b:(v0==0)=false:=by simp [p1]
 have p2 : ¬(100:Int)<v0:=by omega
 have q0:=cell_regrown a0';clear hrow rk Hm8 hv0' hpos q0;have hw8:=e8.out;have hsz8:=hw8.size;go_upto_region 25 with fail;have d0:Ext W8 W8.drew:=(Ext.refl W8).drew;refine Ke (S:=λW=>Ext W8 W) 5 (by kernel_rfl) (by simp) ?_;intro inv;generalize W8.drew=Wd at *;refine tkA (i:=0) (v := .agg #[.slice sp n cp,.slice (some ⟨gm,0,none⟩) m cu,vo]) rfl (.inl ⟨by rfl,λW hW=>by have y0:=hW.cell a0';have y1:=hW.cell a1';have y2:=hW.cell a2';go_simp⟩) d0 inv ?_;intro inv;go_simp;refine tkS (i:=1) (v := .pointer (some ⟨b11,1,none⟩)) rfl d0 inv ?_;intro inv;go_simp;refine tkA (i:=2) (v := .slice (some ⟨gk,ok,none⟩) 1 k7) rfl (.inl ⟨by rfl,λW hW=>by have y0:=hW.cell c1;go_simp⟩) d0 inv ?_;intro inv;go_simp;refine tkS (i:=3) (v := .pointer (some ⟨gk,ok,none⟩)) rfl d0 inv ?_;intro inv;go_simp;refine tkA (i:=4) (v := .slice (some ⟨gr,or,none⟩) n cr) rfl (.inl ⟨by rfl,λW hW=>by have y0:=hW.cell r0;go_simp⟩) d0 inv ?_;intro inv;go_simp;refine Ki (by kernel_rfl) ?_;have hO4:=hid ((KqK Wd (.slice sp n cp) (.slice (some ⟨gm,0,none⟩) m cu) vo (.slice (some ⟨gr,or,none⟩) n cr)).mono (Nat.le_trans hsz8 d0.size));have hR4:=hid (Hrow.out.ext (d0.alloc (.cells #[.slice sp n cp,.slice (some ⟨gm,0,none⟩) m cu,vo,.slice (some ⟨gr,or,none⟩) n cr] 65)));have hE4:=(hw8.trans d0).alloc (.cells #[.slice sp n cp,.slice (some ⟨gm,0,none⟩) m cu,vo,.slice (some ⟨gr,or,none⟩) n cr] 65);clear Hrow a0' a1' a2' c0 c1 r0 rv;go_wp2_with fail;go_ret2
 exact ⟨_,_,rfl,hO4.out,hR4.out,hE4⟩
end
end Go.Proofs.YtdmaofimeknkbaaGreatDoor
