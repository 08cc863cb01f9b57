/- Part 42 of the proof of the claim: contracts of the functions that it reaches, and plain laws; no condition. -/
import Derived.Test.YtdmaofimeknkbaaGreatDoorQ27
import Derived.Test.YtdmaofimeknkbaaGreatDoorQ17
import Derived.Test.YtdmaofimeknkbaaGreatDoorQ16
import Derived.BigQuiet
import Derived.Test.YtdmaofimeknkbaaGreatDoorQ41
import Derived.Test.YtdmaofimeknkbaaGreatDoorQ09
import Derived.Deep.CutRange
import Derived.Test.YtdmaofimeknkbaaGreatDoorQ13
set_option maxRecDepth 100000
set_option maxHeartbeats 20000000
namespace Go.Proofs.YtdmaofimeknkbaaGreatDoor
section
open Go.RowKit Go.Sort
open Lib (hid)
def rdT (x:List Int) (B:Mx) (q:Nat->Int) (n k j:Nat):List Int:=(List.range n).map λi=>x.getD i 0-KD (λt=>q t*eM B t i) (if i<j then k+1 else k)
@[simp] theorem Ki0 (x:List Int) (B:Mx) (q:Nat->Int) (n k j:Nat):(rdT x B q n k j).length=n:=by simp [rdT]
theorem Jr {x:List Int} {B:Mx} {q:Nat->Int} {n k j i:Nat} (h:i<(rdT x B q n k j).length):(rdT x B q n k j)[i]=x.getD i 0-KD (λt=>q t*eM B t i) (if i<j then k+1 else k):=by simp [rdT]
theorem YZ {x:List Int} {B:Mx} {q:Nat->Int} {n k j i:Nat} (h:i<n):(rdT x B q n k j).getD i 0=x.getD i 0-KD (λt=>q t*eM B t i) (if i<j then k+1 else k):=by
 rw [List.getD_eq_getElem?_getD,List.getElem?_eq_getElem (by simpa using h)];exact Jr _
theorem KhO {x:List Int} {B:Mx} {q:Nat->Int} {n k j:Nat} (h:j<n):(rdT x B q n k j).set j ((rdT x B q n k j).getD j 0-q k*eM B k j)=rdT x B q n k (j+1):=by
 refine List.ext_getElem (by simp) λi h1 h2 => ?_
 rw [List.getElem_set,Jr,Jr,YZ h]
 by_cases e:j=i
 ·subst e;rw [if_pos rfl,if_neg (by omega),if_pos (by omega),KD];omega
 ·rw [if_neg e];have:(i<j↔i<j+1):=by omega
  simp only [this]
theorem KhN {x:List Int} {B:Mx} {q:Nat->Int} {n k:Nat}:rdT x B q n k n=rdT x B q n (k+1) 0:=by
 refine List.ext_getElem (by simp) λi h1 h2 => ?_
 rw [Jr,Jr,if_pos (by simpa using h1),if_neg (by omega)]
theorem Kfu {x:List Int} {B:Mx} {q:Nat->Int} {n:Nat} (h:x.length=n):rdT x B q n 0 0=x:=by
 refine List.ext_getElem (by simp [h]) λi h1 h2 => ?_
 rw [Jr,if_neg (by omega),KD,List.getD_eq_getElem?_getD,List.getElem?_eq_getElem h2];simp
def rdL (n:Nat) (M:Mx) (O:List Rat) (x:List Int) (c:Nat->Rat):List Int:=(List.range n).map (Kcb n M O (λi=>x.getD i 0) c)
@[simp] theorem Xp (n:Nat) (M:Mx) (O:List Rat) (x:List Int) (c:Nat->Rat):(rdL n M O x c).length=n:=by simp [rdL]
theorem Keb {n:Nat} {M:Mx} {O:List Rat} {x:List Int} {c:Nat->Rat} {i:Nat} (h:i<n):(rdL n M O x c).getD i 0=Kcb n M O (λi=>x.getD i 0) c i:=by
 unfold rdL;rw [List.getD_eq_getElem?_getD,List.getElem?_map,List.getElem?_range h];rfl
theorem Kj6 {n:Nat} {M:Mx} {O:List Rat} {x:List Int} {c:Nat->Rat}:rdT x (bsM n M) (qE O c) n n 0=rdL n M O x c:=by
 refine List.ext_getElem (by simp) λi h1 h2 => ?_
 rw [Jr,if_neg (by omega)];simp [rdL,Kcb]
theorem Kqo {x:List Int} {B:Mx} {q:Nat->Int} {n k j:Nat} {E D:Nat} (hx : ∀i,nd (x.getD i 0)<=D+E) (hq : ∀t,nd (q t)<=E) (hB : ∀t i,nd (eM B t i)<=D) : ∀i,nd ((rdT x B q n k j).getD i 0)<=D+E+k+2:=λi=>by
 have hs : ∀m,nd (KD (λt=>q t*eM B t i) m)<=D+E+m:=λm=>by
  induction m with
  | zero=>show nd 0<=_;rw [Kp6];have:=Km7 (q 0);have:=hq 0;omega
  | succ m ih =>
   show nd (_+q m*eM B m i)<=_;have h1:=KaX (KD (λt=>q t*eM B t i) m) (q m*eM B m i);have h2:=QY (q m) (eM B m i);have h3:=hq m;have h4:=hB m i;omega
 by_cases h:i<n
 ·rw [YZ h];have h1:=Kp8 (x.getD i 0) (KD (λt=>q t*eM B t i) (if i<j then k+1 else k));have h2:=hx i;have h3:=hs (if i<j then k+1 else k);have h4:(if i<j then k+1 else k)<=k+1:=by split<;>omega
  omega
 ·rw [List.getD_eq_getElem?_getD,List.getElem?_eq_none (by simp;omega)];show nd 0<=_;rw [Kp6];omega
theorem Khu (r:Rat):nd r.floor<=nd r.num:=by
 rw [Rat.floor_def];exact Kgi r.num r.den
theorem Kiy {a b:Int} (ha:nd a<LIM) (hb:nd b<LIM) (h0:b≠0) {w:World} (hL:Laid w) :
  Calls Tryz.prog 42 #[.agg #[I a,I b]] w λe w'=>e = .returned (I (a.fdiv b))/\Ext w w':=by
 have hd:=hid (λX (hX:Ext w X)=>Qf ha hb h0 (w:=X) (hL.ext hX));obtain ⟨q,hq⟩ : ∃q,q=a.fdiv b:=⟨_,rfl⟩
 rw [<-hq] at hd ⊢;have hX:Ext w (w.alloc (.cells #[I a,I b] 47)):=(Ext.refl w).alloc _;have HO:=Qq w 47 (I a) (I b);have c0:(w.alloc (.cells #[I a,I b] 47)).cell? ⟨w.heap.size,0,none⟩=some (I a):=HO.cell (j:=0) (by simp);have c1:(w.alloc (.cells #[I a,I b] 47)).cell? ⟨w.heap.size,1,none⟩=some (I b):=HO.cell (j:=1) (by simp);clear HO hq ha hb h0 hL
 go_enter Tryz.func42,Tryz.ntmps42
 go_wp2_with fail;refine (hd.out _ hX).mono ?_;rintro e w1 ⟨rfl,hE1⟩;go_wp2_with fail;go_ret;exact ⟨rfl,hX.trans hE1⟩
theorem Kbu {a:Rat} (ha:SmQ a) {w:World} (hL:Laid w) :
  Calls Tryz.prog 42 #[RV a] w λe w'=>e = .returned (I a.floor)/\Ext w w':=by
 have h:=Kiy (a:=a.num) (b:=a.den) (by have:=ha.1;unfold LIM;omega) (by have:=ha.2;unfold LIM;omega) (by have:=den_pos' a;omega) hL
 have e:a.num.fdiv (a.den:Int)=a.floor:=by
  rw [Rat.floor_def,Int.fdiv_eq_ediv_of_nonneg _ (by omega)]
 rw [e] at h;exact h
def Kik (w:World) (n:Nat) (M:Mx) (O:List Rat) (X:List Int) (e:Ending) (w':World):Prop :=
 ∃(v:Value) (c:Nat->Rat),e = .returned (.tuple #[v,.int .i64 0])/\CoV n M (λi=>((X.getD i 0:Int):Rat)) c/\KH w.heap.size w' v (rdL n M O X c)/\Ext w w'
def Kcl (X:List Int) (n i:Nat):List Value:=(ss X).take i++List.replicate (n-i) (.string ⟨#[]⟩)
theorem Kh0 {X:List Int} {n i:Nat} (h:X.length=n) (hi:i<=n):(Kcl X n i).length=n:=by
 simp [Kcl,h];omega
theorem Kly {X:List Int} {n i:Nat} (h:X.length=n) (hi:i<n):(Kcl X n i).set i (I (X.getD i 0))=Kcl X n (i+1):=by
 have hl:((ss X).take i).length=i:=by simp [h];omega
 unfold Kcl;rw [List.set_append_right _ _ (by omega),hl,Nat.sub_self,show n-i=(n-(i+1))+1 by omega,List.replicate_succ,List.set_cons_zero,List.take_succ_eq_append_getElem (show i<(ss X).length by simp [h];exact hi),List.append_assoc];have hi':i<X.length:=by omega
 rw [Ka hi'];simp [ss]
theorem KnH {X:List Int} {n:Nat} (h:X.length=n):Kcl X n n=ss X:=by
 unfold Kcl;rw [Nat.sub_self,List.take_of_length_le (by simp [h])];simp
theorem KnI {B n g:Nat} {w:World} (h:w.ownsRow B 45 1 (slv g n n) n (madeCells (Value.string ⟨#[]⟩).cells (n*1)).toList) (X:List Int):Kd 45 B w g n (Kcl X n 0):=by
 rw [show (Value.string ⟨#[]⟩).cells = #[.string ⟨#[]⟩] from rfl,KdY,Nat.mul_one] at h;have e:Kcl X n 0=List.replicate n (.string ⟨#[]⟩):=by simp [Kcl]
 rw [e];unfold Kd;rw [List.length_replicate];exact h
theorem KjW {z:Int} (h : -1000000000<=z/\z<=1000000000):nd z<=31:=Kv (E:=30) (by omega)
theorem Kgn {w:World} {b n cp:Nat} {sp:Option Addr} {vu vx vo:Value} {M:Mx} {X vl:List Int} {O:List Rat} (hB:BkM n M vl) (c0:w.cell? ⟨b,0,none⟩=some (.slice sp n cp)) (c1:w.cell? ⟨b,1,none⟩=some vu) (c2:w.cell? ⟨b,2,none⟩=some vo) (hM:KJ w vu M) (hO:SzR w vo O) (hOl:O.length=M.length) (hOn : ∀x∈O,NdQ 1000 x) (hOb : ∀j,-12<=QQ O j/\QQ O j<=12) (hx:KT w vx X) (hX:X.length=n)
  (hXb : ∀z∈X,-1000000000<=z/\z<=1000000000) (hL:Laid w) :
  Calls Tryz.prog 35 #[.pointer (some ⟨b,0,none⟩),vx] w (Kik w n M O X):=by
 have hn:=hB.hn;have hn0:0<n:=by omega
 have hn3:n<=3:=by omega
 have hMl:=hB.len;obtain ⟨i0,hi,hz0,hz1,hz2⟩:=info_parts Tryz.infoStr;have hco:=hid (λY (hY:Ext w Y)=>KkD (w:=Y) hB (hY.cell c0) (hY.cell c1) (hM.ext hY) (hx.ext hY) hX hXb (hL.ext hY));have hMc:=hM;obtain ⟨sa,gm,om,cap,vs,rfl,hcap,hvl,hS,hr⟩:=hM;obtain ⟨so,go,oo,co,rfl,hcO,hsO,hOc⟩:=hO;obtain ⟨sx,gx,ox,cx,rfl,hcx,hSx⟩:=hx;rw [hX] at hcx hco ⊢;have HSx:=hid hSx;have HX:=hid hX;have HXb:=hid hXb;have HB:=hid hB;have HL:=hid hL;have HOn:=hid hOn;have HOb:=hid hOb;have HOc:=hid hOc;have HsO:=hid hsO;have HM:=hid hMc;have hun:=hid (λY=>Keh (w:=Y) (n:=n) (i:=0) (by omega) hn0);obtain ⟨m,hm⟩ : ∃m,m=M.length:=⟨_,rfl⟩
 have hmn:m+1=n:=by omega
 have hm2:m<=2:=by omega
 have Hmn:=hid hmn;have Hm:=hid hm;rw [hOl] at hcO HsO c2;have HOl:=hid hOl;rw [<-hm] at hcap hcO HsO c1 c2;clear hS hvl hr hSx hX hXb hB hL hMl hmn hm hOl hOn hOb hOc hsO hMc
 go_enter Tryz.func35,Tryz.ntmps35
 go_wp2_with (at_make;refine wpList_make_full _ rfl _ _ 108 rfl w.heap.size 45 i0 (.string ⟨#[]⟩) 1 Tryz.underlying108 hi hz0 hz1 .i64 .i64 _ _ n rfl rfl (by omega) (by omega) (by rw [hz2];omega) (by unfold maxLen;omega) (Nat.le_refl _) ?_;intro w1 hown1 hgrow1)
 have hE1:=KR hgrow1;have hS1:=hid (KnI hown1 X);obtain ⟨g,hgq⟩ : ∃g,g=w.heap.size:=⟨_,rfl⟩
 have hgB:w.heap.size<=g:=by omega
 rw [<-hgq] at hS1 ⊢;clear hown1 hgrow1 hgq;go_wp2_with fail
 go_loopw [25] (λidx wr => ∃(i:Nat),i<=n/\idx = .int .i64 i/\Hid (Kd 45 w.heap.size wr g n (Kcl X n i))/\Ext w wr) (λidx _=>n-(intOf idx).toNat)
 case atStart=>exact ⟨0,by omega,by go_num,hid (hS1.out.mono hgB),hE1⟩
 case round =>
  clear hS1 hE1;obtain ⟨i,hi',rfl,hS,hE⟩:=hrel;generalize wr=U at *
  by_cases hin:i<n
  ·have hii:(i:Int)<(n:Int):=by omega
   have hiX:i<X.length:=by rw [HX.out];exact hin
   obtain ⟨z,hz⟩ : ∃z,z=X.getD i 0:=⟨_,rfl⟩
   have hzX:z=X[i]:=by rw [hz,Ka hiX]
   have k3:=hE.cell (HSx.out.cell i (.int .i64 z) (by rw [hzX];exact Qg hiX));obtain rfl:=HSx.out.addr (by simp;omega);have hof:=hid (λW (hW:Ext U W)=>Qb (n:=z) (w:=W) (by have:=HXb.out z (by rw [hzX];exact List.getElem_mem hiX);omega) (by have:=HXb.out z (by rw [hzX];exact List.getElem_mem hiX);omega) (HL.out.ext (hE.trans hW)));have Hst:=hid (show (Kcl X n i).set i (I z)=Kcl X n (i+1) by rw [hz];exact Kly HX.out hin);clear hz hiX hzX;go_wp2_with fail;refine (hof.out _ (Ext.refl U)).mono ?_;rintro e W ⟨rfl,hEW⟩;have hO2:=hS.out.ext hEW;have hf:=hO2.frozen i;obtain ⟨uz,hcz⟩ : ∃u,W.cell? ⟨g,i,none⟩=some u:=⟨_,hO2.cell (j:=i) (by rw [Kh0 HX.out (by omega)];exact hin)⟩
   obtain ⟨hO3,hG3⟩:=hO2.set i (I z);rw [Hst.out] at hO3;have HO3:=hid hO3;have HE3:=hid (Kb (hE.trans hEW) hG3 hgB);clear hO2 hO3 hG3 hof hS hE hEW k3;go_wp2_with fail;go_roundw
   case rel=>exact ⟨i+1,by omega,by go_num,HO3,HE3.out⟩
   case measure=>simp [intOf]<;>omega
  ·obtain rfl:n=i:=by omega
   have hS2:=hS.out;rw [KnH HX.out] at hS2;have HS2:=hid hS2;clear hS hS2;go_wp2_with fail;refine (hco.out _ hE).mono ?_;rintro e Y ⟨lv,l,rfl,hll,hCo,hNd,hlv,hEY⟩;obtain ⟨gl,cl,hlve⟩:=KeC hlv (by omega);rw [hll] at hlve;subst hlve;have HO:=hid (KeB hlv hll);have hCl:n<=cl:=by have:=HO.out.cap;rw [hll] at this;exact this
   have HCo:=hid hCo;have HNd:=hid (show ∀j,NdQ 10000000 (l.getD j 0) from λj=>NdQ.getD hNd (by omega) j);have Hll:=hid hll;have HS3:=hid (HS2.out.ext hEY);have hEw:=hE.trans hEY
   have HqN:=hid (show ∀j,nd (l.getD j 0-QQ O j).num<=10001001/\NdQ 10001001 (l.getD j 0-QQ O j) from λj=>by
    have h1:NdQ 1000 (QQ O j):=by
     unfold QQ;split
     ·exact NdQ.zero (by omega)
     ·exact NdQ.getD HOn.out (by omega) _
    have h2:=(HNd.out j).sub h1
    exact ⟨h2.1,h2⟩)
   have HrN:=hid (show ∀k j i,nd ((rdT X (bsM n M) (qE O (λj=>l.getD j 0)) n k j).getD i 0)<=31+10001001+k+2 from λk j i=>Kqo (E:=10001001) (D:=31) (λi=>by
     have h1 : -1000000000<=X.getD i 0/\X.getD i 0<=1000000000:=by
      rw [List.getD_eq_getElem?_getD]
      by_cases h:i<X.length
      ·rw [List.getElem?_eq_getElem h];exact HXb.out _ (List.getElem_mem h)
      ·rw [List.getElem?_eq_none (by omega)];simp
     have:=KjW h1;omega) (λt=>Nat.le_trans (Khu _) (HqN.out t).1) (λt i=>KjW (by
     match t with
     | 0=>rw [QH M hn0];split<;>omega
     | t+1 =>
      rw [JM];have h1:(-8:Int)<=eM M t i:=Rat.intCast_le_intCast.1 (HB.out.el t i).1;have h2:eM M t i<=(8:Int):=Rat.intCast_le_intCast.1 (HB.out.el t i).2
      omega)) i)
   clear hCo hNd hlv hll HS2 hE hEY hco;go_wp2_with fail
   go_loopw [40] (λidx wr => ∃(k:Nat),k<=n/\idx = .int .i64 k/\Hid (Kd 45 w.heap.size wr g n (ss (rdT X (bsM n M) (qE O (λj=>l.getD j 0)) n k 0)))/\Hid (OwQ U.heap.size wr gl cl l)/\Ext w wr) (λidx _=>n-(intOf idx).toNat)
   case atStart=>exact ⟨0,by omega,by go_num,hid (by rw [Kfu HX.out];exact HS3.out),HO,hEw⟩
   case round =>
    clear HS3 HO hEw;obtain ⟨k,hk',rfl,hS,hO,hE⟩:=hrel;generalize wr=V at *
    by_cases hkn:k<n
    ·have hki:(k:Int)<(n:Int):=by omega
     obtain ⟨l0,l1⟩:=hO.out.cells (i:=k) (by rw [Hll.out];exact hkn);obtain ⟨ck,hck⟩ : ∃ck,ck=l.getD k 0:=⟨_,rfl⟩
     have hck2:l[k]'(by rw [Hll.out];exact hkn)=ck:=by rw [hck,List.getD_eq_getElem?_getD,List.getElem?_eq_getElem (by rw [Hll.out];exact hkn)];rfl
     rw [hck2] at l0 l1;have HP:=hid (Zg V (I ck.num) (I ck.den));have Hck:=hid hck;have eA:Ext V (V.alloc (.cells #[I ck.num,I ck.den] 47)):=(Ext.refl V).alloc _;have hbV:=hE.size;have hgV:=hS.out.lt.2;have hglV:=hO.out.lt.2;clear hck hck2;go_upto_region 10 with fail;generalize V.alloc (.cells #[I ck.num,I ck.den] _)=V1 at *;obtain ⟨b10,hb10⟩ : ∃b10,b10=V.heap.size:=⟨_,rfl⟩
     rw [<-hb10] at HP hbV hgV hglV ⊢;clear hb10 l0 l1;go_wp2_with fail;refine (hun.out _).mono ?_;rintro e V2 ⟨gu,rfl,hU,hEU⟩;have eB:=eA.trans hEU;have HU:=hid (show KT V2 (slv gu n n) (Xh n 0) from by have:=Kd.rowR hU;rw [Jv] at this;exact this);have hgu:gu≠g:=by have h1:=hU.lt.1;have h2:=eA.size;have h3:=hS.out.lt.2;omega
     have HP2:=hid ((HP.out.ext hEU).mono hbV);have HS2:=hid (hS.out.ext eB);have HO2:=hid (hO.out.ext eB);have hE2:=hE.trans eB;have hbV1:U.heap.size<=b10:=Nat.le_trans (hO.out.lt.1) (by omega);clear hU hEU eA eB hS hO hE HP;go_upto_if 52 with fail
     go_cut [11] from 46 to 72 (λbyv wx => ∃(gy oy cy:Nat) (d:Rat),byv = .slice (some ⟨gy,oy,none⟩) n cy/\gy≠g/\d=l.getD k 0-QQ O k/\Hid (∀i,i<n->wx.cell? ⟨gy,oy+i,none⟩=some (.int .i64 (eM (bsM n M) k i)))/\Hid (Kd 47 w.heap.size wx b10 2 [I d.num,I d.den])/\Hid (Kd 45 w.heap.size wx g n (ss (rdT X (bsM n M) (qE O (λj=>l.getD j 0)) n k 0)))/\Hid (OwQ U.heap.size wx gl cl l)/\Ext w wx)
     case first =>
      by_cases hk0:k=0
      ·subst hk0;go_wp2_with fail;go_meet;refine ⟨gu,0,n,ck,rfl,hgu,?_,hid (λi hi => ?_),HP2,HS2,HO2,hE2⟩
       ·rw [Hck.out];unfold QQ;rw [if_pos rfl];grind
       ·obtain ⟨sa',gb',go',cap',he,hc',hS'⟩:=HU.out;injection he with e1 e2 e3
        have h0:=hS'.addr (by simp;omega);rw [<-e1] at h0;injection h0 with h0
        injection h0 with h0 h1
        subst h0 h1;have h4:=hS'.cell i _ (Qg (p:=Xh n 0) (show i<(Xh n 0).length by simpa using hi));rw [h4];show some (Value.int .i64 _)=some (Value.int .i64 ((Xh n 0).getD i 0));rw [Ka (show i<(Xh n 0).length by simpa using hi)]
      ·clear HU;obtain ⟨gm',om',hsa',hrow⟩:=HM.out.elZ rfl HB.out.rect hn0;obtain rfl:=hsa' (by have:=Hmn.out;have:=Hm.out;omega);obtain ⟨gr,or,cr,r1,r2⟩:=hrow (k-1) (by have:=Hmn.out;have:=Hm.out;omega);obtain ⟨k1,hk1⟩ : ∃k1,k1=k-1:=⟨_,rfl⟩
       rw [<-hk1] at r1 r2;have hk1m:k1<O.length:=by rw [HOl.out,<-Hm.out];have:=Hmn.out;omega
       obtain ⟨o,ho⟩ : ∃o,o=O[k1]:=⟨_,rfl⟩
       have o1:=HOc.out k1 hk1m;rw [<-ho] at o1;obtain rfl:=HsO.out (by have:=Hmn.out;omega);have q0:=hE2.cell c1;have q1:=hE2.cell c2;have q2:=hE2.cell r1;have q3:=hE2.cell o1.1;have q4:=hE2.cell o1.2
       have hd:=hid (show ck-o=l.getD k 0-QQ O k by
        rw [Hck.out,ho];unfold QQ;rw [if_neg hk0,<-hk1,show O.getD k1 0=O[k1] from by rw [List.getD_eq_getElem?_getD,List.getElem?_eq_getElem hk1m];rfl])
       have hon:NdQ 1000 o:=by rw [ho];exact HOn.out _ (List.getElem_mem hk1m)
       have hoS:=hid (hon.smQ (by omega));have hcS:=hid (show SmQ ck by rw [Hck.out];exact (HNd.out k).smQ (by omega))
       have Hby:=hid (show ∀i,i<n->V2.cell? ⟨gr,or+i,none⟩=some (.int .i64 (eM (bsM n M) k i)) from λi hi=>by
        have:=hE2.cell (r2 i hi)
        rw [this,show k=k1+1 by omega,JM])
       have hkp:(0:Int)<(k:Int):=by omega
       have hk1i:(k:Int)-1=(k1:Int):=by omega
       have hk1m':(k1:Int)<(m:Int):=by have:=Hmn.out;omega
       have hwr:IntKind.i64.wrap ((k:Int)-1)=(k1:Int):=by rw [hk1i];exact IntWalk.i64_in _ (by omega)
       have Hsu:=hid (λW (hW:Ext V2 W)=>Jq hcS.out hoS.out (w:=W) (HL.out.ext (hE2.trans hW)));obtain ⟨d,hdq⟩ : ∃d,d=ck-o:=⟨_,rfl⟩
       rw [<-hdq] at Hsu hd;obtain ⟨p0,p1,_,_⟩:=Ky HP2.out;have hgrw:gr<w.heap.size:=World.block_lt_of_cell? _ _ (r2 0 hn0);clear r1 r2 o1 ho hrow hk1 hk1m hon hdq hk1i;go_wp2_with fail;have d0:Ext V2 V2.drew:=(Ext.refl V2).drew;refine Ke (S:=λW=>Ext V2 W) 11 (by kernel_rfl) (by simp) ?_;intro inv;generalize V2.drew=V2d at *;refine tkA (i:=0) (v:=RV ck) rfl (.inl ⟨by rfl,λW hW=>by have y0:=hW.cell p0;have y1:=hW.cell p1;go_simp⟩) d0 inv ?_;intro inv;go_simp;refine tkS (i:=1) (v := .pointer (some ⟨b,0,none⟩)) rfl d0 inv ?_;intro inv;go_simp;refine tkS (i:=2) (v := .pointer (some ⟨b,0,none⟩)) rfl d0 inv ?_;intro inv;go_simp;refine tkS (i:=3) (v := .pointer (some ⟨b,0,none⟩)) rfl d0 inv ?_;intro inv;go_simp;refine tkS (i:=4) (v := .pointer (some ⟨b,2,none⟩)) rfl d0 inv ?_;intro inv;go_simp;refine tkA (i:=5) (v := .slice (some ⟨go,oo,none⟩) m co) rfl (.inl ⟨by rfl,λW hW=>by have y0:=hW.cell q1;go_simp⟩) d0 inv ?_;intro inv;go_simp;refine tkS (i:=6) (v := .int .i64 k) rfl d0 inv ?_;intro inv;go_simp;refine tkS (i:=7) (v := .int .i64 k1) rfl d0 inv ?_;intro inv;go_simp;refine tkS (i:=8) (v := .pointer (some ⟨go,oo+k1*2,none⟩)) rfl d0 inv ?_;intro inv;go_simp;refine tkA (i:=9) (v:=RV o) rfl (.inl ⟨by rfl,λW hW=>by have y0:=hW.cell q3;have y1:=hW.cell q4;go_simp⟩) d0 inv ?_;intro inv;go_simp;refine Kf (i:=10) rfl (by kernel_rfl) inv (λinv K0 hK0 => ?_);go_simp;refine (Hsu.out _ d0).mono ?_;rintro e V3 ⟨rfl,hGc⟩;have d1:=d0.trans hGc
       refine hK0 _ _ d1 ?_;clear hK0;refine Ki (by kernel_rfl) ?_;obtain ⟨hP3,hE3,hG3⟩:=ZW (HP2.out.ext d1) (hE2.trans d1) (by omega) (I d.num) (I d.den);obtain ⟨_,_,f0,f1⟩:=Ky (HP2.out.ext d1);have HP3:=hid hP3;have HE3:=hid hE3;have HS3:=hid (Ks (HS2.out.ext d1) (HP2.out.ext d1) (by decide) hG3);have HO3:=hid ((HO2.out.ext d1).other hG3 (by omega))
       have Hby3:=hid (show ∀i,i<n->((V3.setCell ⟨b10,0,none⟩ (I d.num)).setCell ⟨b10,1,none⟩ (I d.den)).cell? ⟨gr,or+i,none⟩=some (.int .i64 (eM (bsM n M) k i)) from λi hi=>by
        have hc:=d1.cell (Hby.out i hi)
        exact Kl hG3 (by omega) hc)
       clear hP3 hE3 hG3 p0 p1;go_wp2_with fail;go_meet;exact ⟨gr,or,cr,d,rfl,by omega,hd.out,Hby3,HP3,HS3,HO3,HE3.out⟩
     case rest =>
      obtain ⟨gy,oy,cy,d,rfl,hgy,hd,hby,hP,hS,hO,hE⟩:=hcut;generalize wc=Y2 at *;clear HU HP2 HS2 HO2 hE2;have hdQ:=HqN.out k;rw [<-hd] at hdQ;have hfl:=hid (λW (hW:Ext Y2 W)=>Kbu (a:=d) (hdQ.2.smQ (by omega)) (w:=W) (HL.out.ext (hE.trans hW)));have hqf:d.floor=qE O (λj=>l.getD j 0) k:=by rw [hd];rfl
      have hqn:nd d.floor<=10001001:=Nat.le_trans (Khu d) hdQ.1;obtain ⟨p0,p1,_,_⟩:=Ky hP.out;obtain ⟨q,hq⟩ : ∃q,q=d.floor:=⟨_,rfl⟩
      rw [<-hq] at hfl hqf hqn;have Hqf:=hid hqf;have Hqn:=hid hqn;clear hd hdQ hqf hqn hq;go_wp2_with fail;refine (hfl.out _ (Ext.refl Y2)).mono ?_;rintro e Y3 ⟨rfl,hE3⟩;have hby3:=hid (λi (hi:i<n)=>hE3.cell (hby.out i hi));have HS3:=hid (hS.out.ext hE3);have HO3:=hid (hO.out.ext hE3);have hEY:=hE.trans hE3;clear hfl p0 p1 hP hS hO hE hby hE3;go_wp2_with fail
      go_loopw [77] (λidx wr => ∃(j:Nat),j<=n/\idx = .int .i64 j/\Hid (Kd 45 w.heap.size wr g n (ss (rdT X (bsM n M) (qE O (λj=>l.getD j 0)) n k j)))/\Hid (OwQ U.heap.size wr gl cl l)/\Ext w wr/\Hid (∀i,i<n->wr.cell? ⟨gy,oy+i,none⟩=some (.int .i64 (eM (bsM n M) k i)))) (λidx _=>n-(intOf idx).toNat)
      case atStart=>exact ⟨0,by omega,by go_num,HS3,HO3,hEY,hby3⟩
      case round =>
       clear HS3 HO3 hEY hby3;obtain ⟨j,hj',rfl,hS,hO,hE,hby⟩:=hrel;generalize wr=Z at *
       by_cases hjn:j<n
       ·have hji:(j:Int)<(n:Int):=by omega
        obtain ⟨s,hs⟩ : ∃s,s=(rdT X (bsM n M) (qE O (λj=>l.getD j 0)) n k j).getD j 0:=⟨_,rfl⟩
        have hjl:j<(rdT X (bsM n M) (qE O (λj=>l.getD j 0)) n k j).length:=by rw [Ki0];exact hjn
        have s0:=hS.out.cell (j:=j) (by simp;exact hjn);have hse:(ss (rdT X (bsM n M) (qE O (λj=>l.getD j 0)) n k j))[j]'(by simp;exact hjn)=I s:=by rw [hs,Ka hjl];simp [ss]
        rw [hse] at s0;obtain ⟨z,hz⟩ : ∃z,z=eM (bsM n M) k j:=⟨_,rfl⟩
        have z0:=hby.out j hjn;rw [<-hz] at z0;have hz8:=KjC HB.out k j;rw [<-hz] at hz8
        have hzn:nd z<=31:=by
         rw [hz]
         exact KjW (by
          match k with
          | 0=>rw [QH M hn0];split<;>omega
          | t+1 =>
           rw [JM];have h1:(-8:Int)<=eM M t j:=Rat.intCast_le_intCast.1 (HB.out.el t j).1;have h2:eM M t j<=(8:Int):=Rat.intCast_le_intCast.1 (HB.out.el t j).2
           omega)
        have hsn:nd s<=20000000:=by rw [hs];have:=HrN.out k j j;omega
        have hqz:nd (q*z)<=20000000:=by have:=QY q z;have:=Hqn.out;omega
        have eL:LIM=1000000000000:=rfl;have Hof:=hid (λW (hW:Ext Z W)=>Qb (n:=z) (w:=W) hz8.1 hz8.2 (HL.out.ext (hE.trans hW)));have Hmu:=hid (λW (hW:Ext Z W)=>ZR (a:=q) (b:=z) (w:=W) (by have:=Hqn.out;omega) (HL.out.ext (hE.trans hW)));have Hsu:=hid (λW (hW:Ext Z W)=>Ka4 (a:=s) (b:=q*z) (w:=W) (by omega) (by omega) (HL.out.ext (hE.trans hW)));obtain ⟨x,hx⟩ : ∃x,x=s-q*z:=⟨_,rfl⟩
        have Hst:=hid (show (rdT X (bsM n M) (qE O (λj=>l.getD j 0)) n k j).set j x=rdT X (bsM n M) (qE O (λj=>l.getD j 0)) n k (j+1) by rw [hx,hs,hz,Hqf.out];exact KhO hjn);obtain ⟨qz,hqzq⟩ : ∃qz,qz=q*z:=⟨_,rfl⟩
        rw [<-hqzq] at Hmu Hsu hx;rw [<-hx] at Hsu;clear hs hz hse hz8 hzn hsn hqz eL hx hqzq hjl;go_wp2_with fail;have d0:Ext Z Z.drew:=(Ext.refl Z).drew;refine Ke (S:=λW=>Ext Z W) 14 (by kernel_rfl) (by simp) ?_;intro inv;generalize Z.drew=Zd at *;refine tkS (i:=0) (v:=slv g n n) rfl d0 inv ?_;intro inv;go_simp;refine tkS (i:=1) (v := .int .i64 j) rfl d0 inv ?_;intro inv;go_simp;refine tkS (i:=2) (v:=slv g n n) rfl d0 inv ?_;intro inv;go_simp;refine tkS (i:=3) (v := .int .i64 j) rfl d0 inv ?_;intro inv;go_simp;refine tkS (i:=4) (v := .pointer (some ⟨g,j,none⟩)) rfl d0 inv ?_;intro inv;go_simp;refine tkA (i:=5) (v:=I s) rfl (.inl ⟨by rfl,λW hW=>by have y0:=hW.cell s0;go_simp⟩) d0 inv ?_;intro inv;go_simp;refine tkS (i:=6) (v:=I q) rfl d0 inv ?_;intro inv;go_simp;refine tkS (i:=7) (v := .slice (some ⟨gy,oy,none⟩) n cy) rfl d0 inv ?_;intro inv;go_simp;refine tkS (i:=8) (v := .int .i64 j) rfl d0 inv ?_;intro inv;go_simp;refine tkS (i:=9) (v := .pointer (some ⟨gy,oy+j,none⟩)) rfl d0 inv ?_;intro inv;go_simp;refine tkA (i:=10) (v := .int .i64 z) rfl (.inl ⟨by rfl,λW hW=>by have y0:=hW.cell z0;go_simp⟩) d0 inv ?_;intro inv;go_simp;refine Kf (i:=11) rfl (by kernel_rfl) inv (λinv K0 hK0 => ?_);go_simp;refine (Hof.out _ d0).mono ?_;rintro e Z1 ⟨rfl,hG1⟩;have d1:=d0.trans hG1;refine hK0 _ _ d1 ?_;clear hK0;refine Kf (i:=12) rfl (by kernel_rfl) inv (λinv K0 hK0 => ?_);go_simp;refine (Hmu.out _ d1).mono ?_;rintro e Z2 ⟨rfl,hG2⟩
        have d2:=d1.trans hG2;refine hK0 _ _ d2 ?_;clear hK0;refine Kf (i:=13) rfl (by kernel_rfl) inv (λinv K0 hK0 => ?_);go_simp;refine (Hsu.out _ d2).mono ?_;rintro e Z3 ⟨rfl,hG3⟩;have d3:=d2.trans hG3;refine hK0 _ _ d3 ?_;clear hK0;refine Ki (by kernel_rfl) ?_;have hO3:=hS.out.ext d3;have hf:=hO3.frozen j;obtain ⟨hO4,hG4⟩:=hO3.set j (I x);rw [<-Xr,Hst.out] at hO4;have HO4:=hid hO4;have HE4:=hid (Kb (hE.trans d3) hG4 hgB);have HQ4:=hid (Ks (hO.out.ext d3) hO3 (by decide) hG4)
        have hby4:=hid (show ∀i,i<n->(Z3.setCell ⟨g,j,none⟩ (I x)).cell? ⟨gy,oy+i,none⟩=some (.int .i64 (eM (bsM n M) k i)) from λi hi=>by
         have hc:=d3.cell (hby.out i hi)
         exact Kl hG4 hgy hc)
        have y0:=d3.cell s0;clear hO3 hO4 hG4 hS hO hE hby s0 z0 Hof Hmu Hsu d0 d1 d2;go_wp2_with fail;go_roundw
        case rel=>exact ⟨j+1,by omega,by go_num,HO4,HQ4,HE4.out,hby4⟩
        case measure=>simp [intOf]<;>omega
       ·obtain rfl:n=j:=by omega
        have hS2:=hS.out;rw [KhN] at hS2;have HS2:=hid hS2;clear hS hS2;go_wp2_with fail;go_roundw
        case rel=>exact ⟨k+1,by omega,by go_num,HS2,hO,hE⟩
        case measure=>simp [intOf]<;>omega
    ·obtain rfl:n=k:=by omega
     have hS2:=hS.out;rw [Kj6] at hS2;have HSV:=hid hS2
     have HY:=hid (show ∀i,i<n -> -300<=(rdL n M O X (λj=>l.getD j 0)).getD i 0/\(rdL n M O X (λj=>l.getD j 0)).getD i 0<=300 from λi hi=>by
      rw [Keb hi];exact HB.out.small HOb.out HCo.out i hi)
     have hVs:=hE.size;have H0:=hid (show KH V.heap.size (V.alloc (.cells #[] 3)) (slv V.heap.size 0 0) [] from (show Kd 3 V.heap.size (V.alloc (.cells #[] 3)) V.heap.size 0 [] from Kd.of (Nat.le_refl _) Array.getElem?_push_size (by simp) (by unfold maxLen;omega) rfl rfl));have hEa:=(Ext.refl V).alloc (.cells #[] 3);clear hS hS2 hO;go_wp2_with fail
     go_loopw [15,100] (λov idx wr => ∃(i:Nat),i<=n/\idx = .int .i64 i/\Hid (KH V.heap.size wr ov ((rdL n M O X (λj=>l.getD j 0)).take i))/\Ext V wr) (λ_ idx _=>n-(intOf idx).toNat)
     case atStart=>exact ⟨0,by omega,by go_num,H0,hEa⟩
     case round =>
      obtain ⟨i,hi',rfl,hR,hEo⟩:=hrel;generalize wr=Z at *
      by_cases hin:i<n
      ·have hii:(i:Int)<(n:Int):=by omega
       obtain ⟨s,hs⟩ : ∃s,s=(rdL n M O X (λj=>l.getD j 0)).getD i 0:=⟨_,rfl⟩
       have hil:i<(rdL n M O X (λj=>l.getD j 0)).length:=by rw [Xp];exact hin
       have hsB:=HY.out i hin;rw [<-hs] at hsB;have s0:=hEo.cell (HSV.out.cell (j:=i) (by simp;exact hin));have hse:(ss (rdL n M O X (λj=>l.getD j 0)))[i]'(by simp;exact hin)=I s:=by rw [hs,Ka hil];simp [ss]
       rw [hse] at s0;have Hsn:=hid (show (rdL n M O X (λj=>l.getD j 0)).take i++[s]=(rdL n M O X (λj=>l.getD j 0)).take (i+1) by rw [hs,Ka hil,List.take_succ_eq_append_getElem hil]);have Hil:=hid (show ((rdL n M O X (λj=>l.getD j 0)).take i).length=i by rw [List.length_take,Xp];omega);have hsm:=hid (Xy (z:=s) (by omega) (by omega) (by have:=KjW (z:=s) (by omega);have eL:LIM=1000000000000:=rfl;omega) Z);have g1 : ¬(1000000000<s):=by omega
       have g2 : ¬(s < -1000000000):=by omega
       clear hs hil hse hsB;go_wp2_with fail;refine hsm.out.mono ?_;rintro e Z1 ⟨rfl,hE1⟩;have hR1:=hid (hR.out.ext hE1);have hEo1:=hEo.trans hE1;have hZs:=hEo1.size;clear hR hEo hsm s0;go_wp2_with (at_builtin;refine Y9 rfl _ _ 38 Tryz.underlying38 rfl rfl (hR1.out.ext ((Ext.refl _).alloc _)) rfl (b:=Z1.heap.size) (z:=s) (by go_simp) (by rw [Hil.out];omega) (by simp;omega) ?_;intro gg cap2 w8 hO8 hB8 hG8;rw [Hil.out] at hO8 ⊢;rw [Hsn.out] at hO8)
       have hE8:Ext V w8:=Below.trans (hEo1.alloc _) hB8;have HO8:=hid hO8;clear hG8 hB8 hO8;go_wp2_with fail;go_roundw
       case rel=>exact ⟨i+1,by omega,by go_num,HO8,hE8⟩
       case measure=>simp [intOf]<;>omega
      ·obtain rfl:n=i:=by omega
       have hRe:=hR.out;rw [List.take_of_length_le (by rw [Xp];exact Nat.le_refl _)] at hRe;have hRe2:=hid (hRe.mono hVs);have hEr:=hE.trans hEo;have hres:=hid (show ∀ov,KH w.heap.size Z ov (rdL n M O X (λj=>l.getD j 0))->Kik w n M O X (.returned (.tuple #[ov,.int .i64 0])) Z from λov h=>⟨ov,_,rfl,HCo.out,h,hEr⟩);clear hR hRe;go_wp2_with fail;go_ret2;exact hres.out _ hRe2.out
section
variable {w:World} {ops:Array Oper} {rest:List Oper} {o:Oper} {a:Act} {Q:Exit->Act->World->Prop}
theorem KlY (hgd:o.guard=none) (s x:Operand) (t:TypeId) (ht:Tryz.prog.underlying t=some (.slice 3)) (ho:o.op = .call { callee := .builtin .append,args := #[s,x],argTypes := #[t,t] })
  {B:Nat} {v:Value} {r:List Int} (hs:a.eval s=v) (hown:KH B w v r) {sa:Option Addr} {n c:Nat} {z:List Int} (hx:a.eval x = .slice sa n c) (hR:KT w (.slice sa n c) z) (h0:0<n) (hl:r.length+n<=1000000000) (hB:B<=w.heap.size)
  (h : ∀g cap w',KH B w' (slv g (r.length+n) cap) (r++z)->Below B w w'->w.grownBy w' v.ownBlock->(v.ownBlock=some g\/g=w.heap.size)->wpList Tryz.prog ops Q rest (a.put o.dst (slv g (r.length+n) cap)) w'):wpList Tryz.prog ops Q (o::rest) a w:=by
 obtain ⟨i0,hi,hz0,hz1,hz2⟩:=info_parts Tryz.infoInt;obtain ⟨sa',b,c',gc,e,hc,hS⟩:=hR;injection e with e1 e2 e3
 subst e1 e3;obtain rfl:=hS.addr (by rw [Kq];omega);refine wpList_append_lies w hgd s x t ho B 3 i0 _ 1 8 ht hi hz0 hz1 hz2 rfl (by omega) v r.length (is r) hs hown ⟨b,c',none⟩ n c (is z) hx (by rw [Kq];omega) ?_ (λu hu=>by obtain ⟨y,_,rfl⟩:=List.mem_map.1 hu;rfl) h0 (by unfold maxLen;omega) (by omega) hB w.heap.size rfl ?_
 ·intro j u hj;rw [Lib.add_plain];exact hS.cell j u hj
 ·intro g cap w' h1 h2 h3 h4;refine h g cap w' ?_ (Below.grown (Below.refl _ _) h2 hB (λq hq=>(World.ownsRow.lt hown q hq).1)) h2 h3;unfold KH;rw [show is (r++z)=is r++is z by simp [is],List.length_append,<-e2];exact h1
theorem KlW (hgd:o.guard=none) (s x:Operand) (t:TypeId) (ht:Tryz.prog.underlying t=some (.slice 38)) (ho:o.op = .call { callee := .builtin .append,args := #[s,x],argTypes := #[t,t] })
  {B:Nat} {v rv:Value} {F:Mx} {r:List Int} (hs:a.eval s=v) (hown:Qk B w v F) {b:Nat} (hx:a.eval x = .slice (some ⟨b,0,none⟩) 1 1) (hc:w.cell? ⟨b,0,none⟩=some rv) (hr:KH B w rv r) (hl:F.length<=1000000000) (hB:B<=w.heap.size)
  (h : ∀g cap w',Qk B w' (slv g (F.length+1) cap) (F++[r])->Below B w w'->w.grownBy w' v.ownBlock->wpList Tryz.prog ops Q rest (a.put o.dst (slv g (F.length+1) cap)) w'):wpList Tryz.prog ops Q (o::rest) a w:=by
 obtain ⟨i0,hi,hz0,hz1,hz2⟩:=info_parts Tryz.infoRow;obtain ⟨vs,h1,h2,h3⟩:=hown;refine wpList_append_lies w hgd s x t ho B 38 i0 _ 1 24 ht hi hz0 hz1 hz2 rfl (by omega) v F.length vs hs h2 ⟨b,0,none⟩ 1 1 [rv] hx rfl ?_ ?_ (by omega) (by unfold maxLen;omega) (by omega) hB w.heap.size rfl ?_
 ·intro j u hj;have:j=0:=by have:=(List.getElem?_eq_some_iff.1 hj).1;simp at this;omega
  subst this;simp only [List.getElem?_cons_zero,Option.some.injEq] at hj;subst hj;simpa [Addr.add_lit] using hc
 ·intro u hu;simp only [List.mem_cons,List.not_mem_nil,or_false] at hu;subst hu;exact hr.one
 ·intro g cap w' k1 k2 k3 k4;have hkeep : ∀{u:Value} {l:List Int},KH B w u l->KH B w' u l:=λhu=>Ks hu h2 (by decide) k2
  refine h g cap w' ⟨vs++[rv],by simp [h1],?_,λt ht ht' => ?_⟩ (Below.grown (Below.refl _ _) k2 hB (λq hq=>(World.ownsRow.lt h2 q hq).1)) k2
  ·rw [List.length_append];exact k1
  ·rcases Nat.lt_or_ge t F.length with hlt | hge
   ·rw [List.getElem_append_left (by omega),List.getElem_append_left hlt];exact hkeep (h3 t hlt (by omega))
   ·have hte:t=F.length:=by simp at ht;omega
    subst hte;rw [List.getElem_append_right (by omega),List.getElem_append_right (by omega)];simp only [h1,Nat.sub_self,List.getElem_cons_zero];exact hkeep hr
end
theorem KH.below {B q:Nat} {w w':World} {v:Value} {r:List Int} (h:KH B w v r) (hg:w.grownBy w' (some q)) (hq:q<B):KH B w' v r:=by
 refine World.ownsRow.kept h hg ?_
 cases hu:v.ownBlock with
 | none=>exact .inl rfl
 | some g=>exact .inr (λe=>by
   have:=(World.ownsRow.lt h g hu).1
   injection e with e;omega)
end
end Go.Proofs.YtdmaofimeknkbaaGreatDoor
