/- Part 34 of the proof of the claim: contracts of the functions that it reaches, and plain laws; no condition. -/
import Derived.Test.YtmhfccigejcphaaGreatDoorV11
import Derived.Test.YtmhfccigejcphaaGreatDoorV25
import Derived.Test.YtmhfccigejcphaaGreatDoorV15
import Derived.Test.YtmhfccigejcphaaGreatDoorV13
import Derived.Test.YtmhfccigejcphaaGreatDoorV17
set_option maxRecDepth 100000
namespace Go.Proofs.YtmhfccigejcphaaGreatDoor
open Go.RowKit Go.Sort
open Lib (hid)
set_option maxHeartbeats 1000000 in
theorem index_fkShape {w:World} {sa:Option Addr} {gb go cap:Nat} {vs:List Value} {p:Nat→Bool} {k:Int} (hS:Sl w sa gb go vs) (hl:vs.length≤1000000)
  (hF : ∀ i (h:i<vs.length) W,Ext w W→Calls Tryz.prog 126 #[vs[i]] W fun e w'=>e = .returned (.bool (p i))∧Ext W w') (hk:IxR p vs.length k) :
  Calls Tryz.prog 163 #[.slice sa vs.length cap,.func (.func 126) #[] #[]] w fun e w'=>e = .returned (.int .i64 k)∧Ext w w':=by
 have HF:=hid hF;have HK:=hid hk;have HS:=hid hS;clear hF hk hS
 go_enter Tryz.func163,Tryz.ntmps163
 go_wp2_with fail
 go_loopw [8] (fun idx wr => ∃ i:Nat,i≤vs.length∧idx = .int .i64 i∧Hid (∀ j,j<i→p j=false)∧Ext w wr) (fun idx _=>vs.length-(intOf idx).toNat)
 case atStart=>exact ⟨0,by omega,by go_num,hid (fun j h=>by omega),Ext.refl _⟩
 case round =>
  obtain ⟨i,hi,rfl,Hp,hE⟩:=hrel;generalize wr=X at *
  by_cases hlt:i<vs.length
  ·have hii:(i:Int)<(vs.length:Int):=by omega
   obtain ⟨u,hu⟩ : ∃ u,u=vs[i]:=⟨_,rfl⟩
   have hc:=hE.cell (HS.out.cell i u (by rw [hu]; exact List.getElem?_eq_getElem hlt));obtain rfl:=HS.out.addr (by omega);have hf:=HF.out i hlt X hE;rw [← hu] at hf;have Hf:=hid hf;clear hf hu
   cases hpi:p i
   ·rw [hpi] at Hf;have Hpi:=hid hpi;clear hpi;go_wp2_with fail;refine Hf.out.mono ?_;rintro e W ⟨rfl,hE2⟩;go_wp2_with fail;go_roundw
    case rel=>exact ⟨i+1,by omega,by go_num,hid (fun j hj=>by
     by_cases e:j=i
     ·subst e; exact Hpi.out
     ·exact Hp.out j (by omega)),hE.trans hE2⟩
    case measure=>simp [intOf] <;> omega
   ·rw [hpi] at Hf;have Hki:=hid (IxR_at HK.out hlt hpi Hp.out);clear hpi;go_wp2_with fail;refine Hf.out.mono ?_;rintro e W ⟨rfl,hE2⟩;go_wp2_with fail;go_ret;exact ⟨by rw [Hki.out]; rfl,hE.trans hE2⟩
  ·have Hki:=hid (IxR_no HK.out (fun j hj=>Hp.out j (by omega)));go_wp2_with fail;go_ret;exact ⟨by rw [Hki.out]; rfl,hE⟩
theorem contains_fkShape {w:World} {sa:Option Addr} {gb go cap:Nat} {vs:List Value} {p:Nat→Bool} (hS:Sl w sa gb go vs) (hl:vs.length≤1000000)
  (hF : ∀ i (h:i<vs.length) W,Ext w W→Calls Tryz.prog 126 #[vs[i]] W fun e w'=>e = .returned (.bool (p i))∧Ext W w') :
  Calls Tryz.prog 107 #[.slice sa vs.length cap,.func (.func 126) #[] #[]] w fun e w'=>e = .returned (.bool (anyB p vs.length))∧Ext w w':=by
 obtain ⟨k,hk⟩:=IxR_ex p vs.length;have Hge:=hid (IxR_ge hk);have HI:=hid (index_fkShape (cap:=cap) hS hl hF hk);clear hS hF hk
 go_enter Tryz.func107,Tryz.ntmps107
 go_wp2_with fail;refine HI.out.mono ?_;rintro e W ⟨rfl,hE⟩;go_wp2_with fail;go_ret;exact ⟨by rw [← Hge.out]; rfl,hE⟩
theorem smK9 {R:Mx} (hm : ∀ r∈R,∀ z∈r,-9≤z∧z≤9):SmK R:=fun r hr z hz=>by have:=hm r hr z hz; omega
theorem chk9 {R:Mx} {n:Nat} (hR:Rect n R) (hn:n≤4) (hm : ∀ r∈R,∀ z∈r,-9≤z∧z≤9) : ∀ r∈R,chkRow r=0∧r.length=n:=fun r hr=>by
 have hg:r.any grt=false:=by
  cases h:r.any grt
  ·rfl
  ·obtain ⟨z,hz,hg⟩:=List.any_eq_true.1 h;have:=hm r hr z hz;unfold grt at hg;have:=of_decide_eq_true hg;omega
 have h2:=hR r hr;refine ⟨?_,h2⟩;unfold chkRow;rw [if_neg (by omega),hg]; rfl
theorem set2o {T:TypeId} {g B:Nat} {W:World} {a b:Value} (h:OwnV T B W g 2 [a,b]) (x y:Value) :
  OwnV T B ((W.setCell ⟨g,0,none⟩ x).setCell ⟨g,1,none⟩ y) g 2 [x,y]∧W.grownBy ((W.setCell ⟨g,0,none⟩ x).setCell ⟨g,1,none⟩ y) (some g):=by
 obtain ⟨h1,g1⟩:=h.set 0 x;obtain ⟨h2,g2⟩:=h1.set 1 y;exact ⟨h2,grown_trans g1 g2⟩
theorem RowV.slice {B:Nat} {w:World} {v:Value} {r:List Int} (h:RowV B w v r) : ∃ a l k,v = .slice a l k:=by
 rcases h.2 with ⟨rfl,_⟩ | ⟨g,cap,cur,rfl,_⟩
 ·exact ⟨_,_,_,rfl⟩
 ·exact ⟨_,_,_,rfl⟩
theorem row_kept {w w':World} {q g n c:Nat} {r:List Int} (h:RowR w (slv g n c) r) (hG:w.grownBy w' (some q)) (hne:g≠q):RowR w' (slv g n c) r:=by
 obtain ⟨sa,gb,go,cap,he,hc,hS⟩:=h;injection he with e1 e2 e3
 subst e2 e3;refine ⟨_,gb,go,c,rfl,hc,fun h0=>(by rw [e1]; exact hS.addr h0),fun i x hx => ?_⟩;have h0:0<(is r).length:=by have:=(List.getElem?_eq_some_iff.1 hx).1; omega
 have h1:=hS.addr h0;rw [← e1] at h1;injection h1 with h1
 injection h1 with h1 h2
 subst h1 h2;exact grown_frozen_cell hG hne (hS.cell i x hx)
def mzS (x:List Int):Bool:=x.all fun z=>decide (-1000≤z)&&decide (z≤1000)
def mzE (n:Nat) (x:List Int):Int:=if x.length=n then (if mzS x=true then 0 else 4) else 5
theorem mzE_zero {n:Nat} {x:List Int} (h:mzE n x=0):x.length=n ∧ ∀ z∈x,-1000≤z∧z≤1000:=by
 unfold mzE at h;split at h
 ·rename_i h1
  split at h
  ·rename_i h2
   unfold mzS at h2;rw [List.all_eq_true] at h2;exact ⟨h1,fun z hz=>by have:=h2 z hz; simpa using this⟩
  ·cases h
 ·cases h
set_option maxHeartbeats 4000000 in
theorem mcheckAll1_any {w:World} {vp:Value} {P:List Int} {b:Nat} {vx:Value} {x:List Int} (hP:RowR w vp P) (hp0:0<P.length) (hp4:P.length≤4) (hpr : ∀ x∈P,SmP x) (hinc : ∀ i (h:i+1<P.length),P[i]'(by omega)<P[i+1]) (hb:w.cell? ⟨b,0,none⟩=some vx) (hx:RowR w vx x) :
  Calls Tryz.prog 70 #[vp,.slice (some ⟨b,0,none⟩) 1 1] w fun e w'=>e = .returned (.int .i64 (mzE P.length x))∧Ext w w':=by
 have hck:=hid (pCheck_ok hP hp0 (by omega) hpr hinc);obtain ⟨sx,gx,ox,cx,rfl,hxc,hSx⟩:=hx;obtain ⟨sp,gp,op,cp,rfl,hpc,hSp⟩:=hP;have HSx:=hid hSx;have hE:mzE P.length x=if x.length=P.length then (if mzS x=true then 0 else 4) else 5:=rfl
 have hS4:=fun j (h:j<x.length) (hz : ¬ (-1000≤x[j]∧x[j]≤1000))=>show mzS x=false by
  cases hq:mzS x with
  | false=>rfl
  | true =>
   unfold mzS at hq;rw [List.all_eq_true] at hq;have:=hq x[j] (List.getElem_mem h);exact absurd (by simpa using this) hz
 have hS0:=fun (h : ∀ j (h:j<x.length),-1000≤x[j]∧x[j]≤1000)=>show mzS x=true by
  unfold mzS;rw [List.all_eq_true];intro z hz;obtain ⟨j,hj,rfl⟩:=List.getElem_of_mem hz;have:=h j hj;simp [this.1,this.2]
 obtain ⟨n,hn⟩ : ∃ n,n=x.length:=⟨_,rfl⟩
 obtain ⟨q,hq⟩ : ∃ q,q=mzE P.length x:=⟨_,rfl⟩
 rw [← hq] at hE ⊢;rw [← hn] at hb hE;clear hSx hSp hpr hinc hp0 hpc hq;generalize P.length=p at *;have Hn:=hid hn;have HE:=hid hE;have HS4:=hid hS4;have HS0:=hid hS0;clear hn hE hS4 hS0
 go_enter Tryz.func70,Tryz.ntmps70
 go_wp2_with fail;refine hck.out.mono ?_;rintro e X ⟨rfl,hE1⟩;have yb:=hE1.cell hb;clear hck hb
 by_cases hnp:n=p
 ·subst hnp;have HE:=hid (show q=if mzS x=true then 0 else 4 by rw [HE.out,if_pos rfl]);go_wp2_with fail
  go_loopw [4,17] (fun rv idx wr => ∃ i:Nat,i≤1∧idx = .int .i64 i∧rv = .int .i64 0∧Hid (0<i→q=0)∧Ext X wr) (fun _ idx _=>1-(intOf idx).toNat)
  case atStart=>exact ⟨0,by omega,by go_num,rfl,hid (fun h=>by omega),Ext.refl _⟩
  case round =>
   obtain ⟨i,hi,rfl,rfl,H0,hE⟩:=hrel;generalize wr=Y at *;have yb1:=hE.cell yb
   rcases (show i=0∨i=1 by omega) with rfl | rfl
   ·go_wp2_with fail
    go_loopw [4,28] (fun rv idx wr => ∃ j:Nat,j≤n∧idx = .int .i64 j∧rv = .int .i64 0∧Hid (∀ t (h:t<x.length),t<j → -1000≤x[t]∧x[t]≤1000)∧Ext Y wr) (fun _ idx _=>n-(intOf idx).toNat)
    case atStart=>exact ⟨0,by omega,by go_num,rfl,hid (fun t _ h=>by omega),Ext.refl _⟩
    case round =>
     obtain ⟨j,hj,rfl,rfl,HA,hE2⟩:=hrel;generalize wr=Z at *
     by_cases hjl:j<n
     ·have hji:(j:Int)<(n:Int):=by omega
      have hjx:j<x.length:=by rw [← Hn.out]; exact hjl
      have Hbad:=hid (fun h=>show q=4 by rw [HE.out,HS4.out j hjx h]; rfl)
      have Hok:=hid (fun (h : -1000≤x[j]∧x[j]≤1000) t (ht:t<x.length) (htj:t<j+1)=>show -1000≤x[t]∧x[t]≤1000 by
       by_cases e:t=j
       ·subst e; exact h
       ·exact HA.out t ht (by omega))
      obtain ⟨z,hz⟩ : ∃ z,z=x[j]:=⟨_,rfl⟩
      have hcz:=((hE1.trans hE).trans hE2).cell (HSx.out.cell j (.int .i64 z) (by rw [hz]; exact is_get hjx));obtain rfl:=HSx.out.addr (by simp; omega);rw [← hz] at Hbad Hok;have eF:=(hE1.trans hE).trans hE2;clear hz HA
      by_cases hz1:(1000:Int)<z
      ·have H4:=hid (Hbad.out (by omega));clear Hbad Hok;go_wp2_with fail;go_ret;exact ⟨ret_val (congrArg (Value.int .i64) H4.out.symm),eF⟩
      ·by_cases hz2:z<(-1000:Int)
       ·have H4:=hid (Hbad.out (by omega));clear Hbad Hok;go_wp2_with fail;go_ret;exact ⟨ret_val (congrArg (Value.int .i64) H4.out.symm),eF⟩
       ·have HA:=hid (Hok.out (by omega));clear Hbad Hok;go_wp2_with fail;go_roundw
        case rel=>exact ⟨j+1,by omega,by go_num,rfl,HA,hE2⟩
        case measure=>simp [intOf] <;> omega
     ·obtain rfl:j=n:=by omega
      have H0:=hid (show q=0 by rw [HE.out,HS0.out (fun t ht=>HA.out t ht (by rw [Hn.out]; exact ht))]; rfl);clear HA;go_wp2_with fail;go_roundw
      case rel=>exact ⟨1,by omega,by go_num,rfl,hid (fun _=>H0.out),hE.trans hE2⟩
      case measure=>simp [intOf] <;> omega
   ·have H0:=hid (H0.out (by omega));go_wp2_with fail;go_ret;exact ⟨ret_val (congrArg (Value.int .i64) H0.out.symm),hE1.trans hE⟩
 ·have HE:=hid (show q=5 by rw [HE.out,if_neg hnp]);have hn1 : ¬ (n:Int)=(p:Int):=by omega
  have hn2:((n:Int)==(p:Int))=false:=beq_eq_false_iff_ne.2 hn1;have hn3:((n:Int) != (p:Int))=true:=by simp [bne,hn2]
  go_wp2_with fail
  go_loopw [4,17] (fun rv idx wr=>idx = .int .i64 0∧rv = .int .i64 0∧X=wr) (fun _ _ _=>0)
  case atStart=>exact ⟨by go_num,rfl,rfl⟩
  case round =>
   obtain ⟨rfl,rfl,hwr⟩:=hrel;subst hwr;go_wp2_with fail;go_ret;exact ⟨ret_val (congrArg (Value.int .i64) HE.out.symm),hE1⟩
theorem mcheck_any {w:World} {vp:Value} {P:List Int} {sx:Option Addr} {n cx:Nat} {x:List Int} (hP:RowR w vp P) (hp0:0<P.length) (hp4:P.length≤4) (hpr : ∀ x∈P,SmP x) (hinc : ∀ i (h:i+1<P.length),P[i]'(by omega)<P[i+1]) (hx:RowR w (.slice sx n cx) x) :
  Calls Tryz.prog 28 #[vp,.slice sx n cx] w fun e w'=>e = .returned (.int .i64 (mzE P.length x))∧Ext w w':=by
 have hX:=(Ext.refl w).alloc (.cells #[.slice sx n cx] 30);have xb:(w.alloc (.cells #[.slice sx n cx] 30)).cell? ⟨w.heap.size,0,none⟩=some (.slice sx n cx):=by go_simp
 have hck:=hid (mcheckAll1_any (hP.ext hX) hp0 hp4 hpr hinc xb (hx.ext hX));obtain ⟨sp,gp,op,cp,rfl,hpc,hSp⟩:=hP;generalize mzE P.length x=q at *;clear hSp hx hpr hinc hpc
 go_enter Tryz.func28,Tryz.ntmps28
 go_wp2_with fail;refine hck.out.mono ?_;rintro e X ⟨rfl,hE1⟩;go_wp2_with fail;go_ret;exact ⟨rfl,hX.trans hE1⟩
def MzS (n:Nat) (x:List Int):Prop:=x.length=n ∧ ∀ z∈x,-1000≤z∧z≤1000
set_option maxHeartbeats 4000000 in
theorem mcheckAll_ok {w:World} {vp:Value} {P:List Int} {b m cc:Nat} {xs:List (List Int)} (hP:RowR w vp P) (hp0:0<P.length) (hp4:P.length≤4) (hpr : ∀ x∈P,SmP x) (hinc : ∀ i (h:i+1<P.length),P[i]'(by omega)<P[i+1]) (hm:xs.length=m) (hm4:m≤1000)
  (hb : ∀ j (h:j<xs.length),∃ v,w.cell? ⟨b,j,none⟩=some v∧RowR w v xs[j]) (hs : ∀ x∈xs,MzS P.length x) :
  Calls Tryz.prog 70 #[vp,.slice (some ⟨b,0,none⟩) m cc] w fun e w'=>e = .returned (.int .i64 0)∧Ext w w':=by
 have hck:=hid (pCheck_ok hP hp0 (by omega) hpr hinc);obtain ⟨sp,gp,op,cp,rfl,hpc,hSp⟩:=hP;obtain ⟨n,hn⟩ : ∃ n,n=P.length:=⟨_,rfl⟩
 rw [← hn] at hck hs ⊢;have Hb:=hid hb;have Hs:=hid hs;have Hm:=hid hm;have hn4:n≤4:=by omega
 clear hSp hs hb hn hpr hinc hp0 hp4 hpc hm
 go_enter Tryz.func70,Tryz.ntmps70
 go_wp2_with fail;refine hck.out.mono ?_;rintro e X ⟨rfl,hE1⟩;clear hck;go_wp2_with fail
 go_loopw [4,17] (fun rv idx wr => ∃ i:Nat,i≤m∧idx = .int .i64 i∧rv = .int .i64 0∧Ext X wr) (fun _ idx _=>m-(intOf idx).toNat)
 case atStart=>exact ⟨0,by omega,by go_num,rfl,Ext.refl _⟩
 case round =>
  obtain ⟨i,hi,rfl,rfl,hE⟩:=hrel;generalize wr=Y at *
  by_cases hlt:i<m
  ·have hii:(i:Int)<(m:Int):=by omega
   have hix:i<xs.length:=by rw [Hm.out]; exact hlt
   obtain ⟨v,hv,hR⟩:=Hb.out i hix;obtain ⟨x,hx⟩ : ∃ x,x=xs[i]:=⟨_,rfl⟩
   have hsx:=Hs.out x (by rw [hx]; exact List.getElem_mem hix);rw [← hx] at hR;obtain ⟨sx,gx,ox,cx,rfl,hxc,hSx⟩:=hR;have HSx:=hid hSx;have yb1:=hE.cell (hE1.cell hv);have Hl:=hid hsx.1;have Hz:=hid hsx.2;rw [hsx.1] at yb1;clear hSx hv hx hix hsx hxc hlt;go_wp2_with fail
   go_loopw [4,28] (fun rv idx wr => ∃ j:Nat,j≤n∧idx = .int .i64 j∧rv = .int .i64 0∧Ext Y wr) (fun _ idx _=>n-(intOf idx).toNat)
   case atStart=>exact ⟨0,by omega,by go_num,rfl,Ext.refl _⟩
   case round =>
    obtain ⟨j,hj,rfl,rfl,hE2⟩:=hrel;generalize wr=Z at *
    by_cases hjl:j<n
    ·have hji:(j:Int)<(n:Int):=by omega
     have hjx:j<x.length:=by rw [Hl.out]; exact hjl
     obtain ⟨z,hz⟩ : ∃ z,z=x[j]:=⟨_,rfl⟩
     have hcz:=((hE1.trans hE).trans hE2).cell (HSx.out.cell j (.int .i64 z) (by rw [hz]; exact is_get hjx));obtain rfl:=HSx.out.addr (by simp; omega);have hzb:=Hz.out z (by rw [hz]; exact List.getElem_mem hjx);have hz1 : ¬ (1000:Int)<z:=by omega
     have hz2 : ¬ z<(-1000:Int):=by omega
     clear hz hzb;go_wp2_with fail;go_roundw
     case rel=>exact ⟨j+1,by omega,by go_num,rfl,hE2⟩
     case measure=>simp [intOf] <;> omega
    ·obtain rfl:j=n:=by omega
     go_wp2_with fail;go_roundw
     case rel=>exact ⟨i+1,by omega,by go_num,rfl,hE.trans hE2⟩
     case measure=>simp [intOf] <;> omega
  ·obtain rfl:i=m:=by omega
   have hii : ¬ (i:Int)<(i:Int):=by omega
   go_wp2_with fail;go_ret;exact ⟨rfl,hE1.trans hE⟩
theorem fSign_any (a b:Int) (w:World) :
  Calls Tryz.prog 119 #[.agg #[I a,I b]] w fun e w'=>e = .returned (.int .i64 a.sign)∧Ext w w':=by
 have hs:=hid (Sign_any a);generalize a.sign=sg at *;have hX:Ext w (w.alloc (.cells #[I a,I b] 84)):=(Ext.refl w).alloc _;have HO:=two_alloc w 84 (I a) (I b);have c0:(w.alloc (.cells #[I a,I b] 84)).cell? ⟨w.heap.size,0,none⟩=some (I a):=HO.cell (j:=0) (by simp);clear HO
 go_enter Tryz.func119,Tryz.ntmps119
 go_wp2_with fail;refine (hs.out _).mono ?_;rintro e w1 ⟨rfl,hE1⟩;go_wp2_with fail;go_ret;exact ⟨rfl,hX.trans hE1⟩
set_option maxHeartbeats 1000000 in
theorem fDiv_any {a b c d:Int} (ha:nd a≤100000000) (hb:nd b≤100000000) (hc:nd c≤100000000) (hd:nd d≤100000000) (hb0:0<b) (hc0:c≠0) {w:World} (hL:Laid w) :
  Calls Tryz.prog 120 #[.agg #[I a,I b],.agg #[I c,I d]] w fun e w'=>e = .returned (.tuple #[.agg #[I (qn (a*d) (b*c)),I (qd (a*d) (b*c))],.int .i64 0])∧Ext w w':=by
 have HL:=hid hL;have n1:=nd_mul a d;have n2:=nd_mul b c;have hbd:b*c≠0:=Int.mul_ne_zero (by omega) hc0;have hl:=hid (fun w hL=>flowest_any (n:=a*d) (d:=b*c) (w:=w) (by unfold LIM; omega) (by unfold LIM; omega) hbd hL);have hm1:=hid (fun w hL=>Mul_any (a:=a) (b:=d) (w:=w) (by unfold LIM; omega) hL);have hm2:=hid (fun w hL=>Mul_any (a:=b) (b:=c) (w:=w) (by unfold LIM; omega) hL);have hs:=hid (fSign_any c d);have hsg:(c.sign==0)=false:=beq_eq_false_iff_ne.2 (fun h=>hc0 (Int.sign_eq_zero_iff_zero.1 h));generalize c.sign=sg at *;obtain ⟨x,hx⟩ : ∃ x,x=qn (a*d) (b*c):=⟨_,rfl⟩
 obtain ⟨y,hy⟩ : ∃ y,y=qd (a*d) (b*c):=⟨_,rfl⟩
 rw [← hx, ← hy] at hl ⊢;clear hx hy n1 n2 hbd ha hb hc hd hb0 hc0 hL;obtain ⟨X,hXe,hX,c0,c1,c2,c3,hO⟩:=fr2_alloc w 84 (I a) (I b) (I c) (I d) (.string ⟨#[]⟩) (.string ⟨#[]⟩);have HO:=hid hO;obtain ⟨bs,hbs⟩ : ∃ bs,bs=w.heap.size:=⟨_,rfl⟩
 have hsz:=hX.size;clear hO
 go_enter Tryz.func120,Tryz.ntmps120
 go_wp2_with fail;rw [← hbs] at c0 c1 c2 c3 HO ⊢;have hbs2:w.heap.size≤bs+1+1:=by omega
 clear hXe hbs;refine (hs.out _).mono ?_;rintro e w1 ⟨rfl,hE1⟩;replace c0:=hE1.cell c0;replace c1:=hE1.cell c1;replace c2:=hE1.cell c2;replace c3:=hE1.cell c3;replace HO:=hid (HO.out.ext hE1);replace hX:=hX.trans hE1;clear hE1;go_wp2_with fail;generalize w1=X at *;have d7:Ext X X.drew:=(Ext.refl X).drew;refine wp_region_held_tail (S:=fun W=>Ext X W) 11 (by kernel_rfl) (by simp) ?_;intro inv;refine tkS (i:=0) (v := .pointer (some ⟨bs,0,none⟩)) rfl d7 inv ?_;intro inv;go_simp;refine tkA (i:=1) (v:=I a) rfl (.inl ⟨by rfl,fun W hW=>by have z0:=hW.cell c0; go_simp⟩) d7 inv ?_;intro inv;go_simp;refine tkS (i:=2) (v := .pointer (some ⟨bs+1,1,none⟩)) rfl d7 inv ?_;intro inv;go_simp;refine tkA (i:=3) (v:=I d) rfl (.inl ⟨by rfl,fun W hW=>by have z0:=hW.cell c3; go_simp⟩) d7 inv ?_;intro inv;go_simp;refine tkS (i:=5) (v := .pointer (some ⟨bs,1,none⟩)) rfl d7 inv ?_;intro inv;go_simp;refine tkA (i:=6) (v:=I b) rfl (.inl ⟨by rfl,fun W hW=>by have z0:=hW.cell c1; go_simp⟩) d7 inv ?_;intro inv;go_simp;refine tkS (i:=7) (v := .pointer (some ⟨bs+1,0,none⟩)) rfl d7 inv ?_;intro inv;go_simp;refine tkA (i:=8) (v:=I c) rfl (.inl ⟨by rfl,fun W hW=>by have z0:=hW.cell c2; go_simp⟩) d7 inv ?_;intro inv;go_simp;refine wpAnyLH_one (i:=4) rfl (by kernel_rfl) (fun K0 hK0 => ?_);go_simp;refine (hm1.out _ (HL.out.ext (hX.trans d7))).mono ?_;rintro e w0 ⟨rfl,hF0⟩;have e0:=d7.trans hF0;refine hK0 _ _ e0 ?_;clear hK0;refine wpAnyLH_one (i:=9) rfl (by kernel_rfl) (fun K1 hK1 => ?_);go_simp
 refine (hm2.out _ (HL.out.ext (hX.trans e0))).mono ?_;rintro e w1 ⟨rfl,hF1⟩;have e1:=e0.trans hF1;refine hK1 _ _ e1 ?_;clear hK1;refine wpAnyLH_one (i:=10) rfl (by kernel_rfl) (fun K2 hK2 => ?_);go_simp;refine (hl.out _ (HL.out.ext (hX.trans e1))).mono ?_;rintro e w2 ⟨rfl,hF2⟩;have e2:=e1.trans hF2;refine hK2 _ _ e2 ?_;clear hK2;refine wpAnyLH_end (by kernel_rfl) ?_;replace HO:=hid (HO.out.ext e2);replace hX:=hX.trans e2;obtain ⟨q0,q1,f0,f1,r0,r1,hF⟩:=two_end hX hbs2 HO.out (I x) (I y);have Hres:=hid (show RetF w (.tuple #[.agg #[I x,I y],.int .i64 0]) (.returned (.tuple #[.agg #[I x,I y],.int .i64 0])) _ from ⟨rfl,hF.out⟩);go_wp2_with fail;refine bodyPost_ret (v := .tuple #[.agg #[I x,I y],.int .i64 0]) (by simp [results,Tryz.results120,go_sem,r0,r1]) rfl Hres.out
theorem rat_num_ne {b:Rat} (h:b≠0):b.num≠0:=fun e=>h (Rat.num_eq_zero.1 e)
theorem qdiv_R {a b:Rat} (hb:b≠0):qmk (a.num*(b.den:Int)) ((a.den:Int)*b.num)=qR (a/b):=by
 have hbn:=rat_num_ne hb;have hd:(a.den:Int)*b.num≠0:=Int.mul_ne_zero (by have:=a.den_pos; omega) hbn;rw [qmk_R hd]
 congr 1
 have e1:=rat_parts a;have e2:=rat_parts b;have h1:=den_ne a;have h2:=den_ne b;have h3:((b.num:Int):Rat)≠0:=by exact_mod_cast hbn
 simp only [Rat.intCast_mul];generalize ((a.den:Int):Rat)=da at *;generalize ((b.den:Int):Rat)=db at *;generalize ((a.num:Int):Rat)=na at *;generalize ((b.num:Int):Rat)=nb at *
 grind
theorem ratDiv_any {a b:Rat} (ha:SmQ a) (hb:SmQ b) (h0:b≠0) {w:World} (hL:Laid w) :
  Calls Tryz.prog 120 #[RV a,RV b] w fun e w'=>e = .returned (.tuple #[RV (a/b),.int .i64 0])∧Ext w w':=by
 have h:=fDiv_any ha.1 ha.2 hb.1 hb.2 (den_pos' a) (rat_num_ne h0) hL;obtain ⟨e1,e2⟩:=qR_eq (qdiv_R (a:=a) h0);rw [e1,e2] at h;exact h
theorem NdQ.div {E F:Nat} {a b:Rat} (ha:NdQ E a) (hb:NdQ F b) (h0:b≠0):NdQ (E+F) (a/b):=by
 refine NdQ.mk (qdiv_R (a:=a) h0) ?_ ?_
 ·have:=nd_mul a.num (b.den:Int);have h1:=ha.1;have h2:=hb.2;omega
 ·have:=nd_mul (a.den:Int) b.num;have h1:=ha.2;have h2:=hb.1;omega
theorem ratSign_any (a:Rat) (w:World):Calls Tryz.prog 119 #[RV a] w fun e w'=>e = .returned (.int .i64 a.num.sign)∧Ext w w':=fSign_any a.num a.den w
section
variable {B:Nat} {w:World} {g cap n i j:Nat} {F:Mq} {ad:List (Nat×Nat)}
theorem QgX.el (h:QgX B w (slv g F.length cap) F ad) (hR:RectQ n F) (hi:i<F.length) (hj:j<n) :
  ∃ gx cx,ad[i]? = some (gx,cx)∧w.cell? ⟨g,i,none⟩=some (slv gx n cx)∧w.cell? ⟨gx,j*2,none⟩=some (I (qa F i j).num)∧w.cell? ⟨gx,j*2+1,none⟩=some (I (qa F i j).den)∧gx≠g:=by
 obtain ⟨gx,cx,h1,h2,hO,hne,hl⟩:=h.at hR (by omega) hi;obtain ⟨k1,k2⟩:=hO.cells (i:=j) (by omega)
 have hq:qa F i j=(F.getD i [])[j]'(by omega):=by
  unfold qa;rw [List.getD_eq_getElem?_getD (l:=F.getD i []),List.getElem?_eq_getElem (by omega)]; rfl
 rw [hq];exact ⟨gx,cx,h1,h2,k1,k2,hne⟩
theorem QgX.put (h:QgX B w (slv g F.length cap) F ad) (hR:RectQ n F) (hi:i<F.length) (hj:j<n) {gx cx:Nat} (ha:ad[i]? = some (gx,cx)) (r:Rat) :
  w.frozen? ⟨gx,j*2,none⟩=false∧w.frozen? ⟨gx,j*2+1,none⟩=false ∧
   Hid (QgX B ((w.setCell ⟨gx,j*2,none⟩ (I r.num)).setCell ⟨gx,j*2+1,none⟩ (I r.den)) (slv g F.length cap) (F.set i ((F.getD i []).set j r)) ad) ∧
   Hid (w.grownBy ((w.setCell ⟨gx,j*2,none⟩ (I r.num)).setCell ⟨gx,j*2+1,none⟩ (I r.den)) (some gx))∧B≤gx:=by
 obtain ⟨gx',cx',h1,h2,hO,hne,hl⟩:=h.at hR (by omega) hi;rw [h1] at ha;injection ha with ha
 injection ha with ha1 ha2
 subst ha1 ha2;obtain ⟨o2,hg⟩:=hO.set2 j r;exact ⟨hO.frozen _,hO.frozen _,hid (h.wrote hi h1 (by rw [List.length_set]) (by rw [List.length_set,hl]; omega) o2 (Chg.of_grown hg rfl)),hid hg,hO.lt.1⟩
end
def BdQ (E:Nat) (F:Mq):Prop := ∀ r∈F,∀ x∈r,NdQ E x
def bnd (E:Nat):Nat→Nat
 | 0=>E
 | k+1=>6*bnd E k+1
theorem bnd_mono (E:Nat) : ∀ {a b:Nat},a≤b→bnd E a≤bnd E b
  | a, 0, h => by obtain rfl : a = 0 := by omega
                  exact Nat.le_refl _
  | a,b+1,h=>by
    rcases Nat.eq_or_lt_of_le h with rfl | h1
    · exact Nat.le_refl _
    · have:=bnd_mono E (show a≤b by omega)
      show _≤6*bnd E b+1;omega
theorem bnd_pos {E:Nat} (h:1≤E) (k:Nat):1≤bnd E k:=Nat.le_trans h (bnd_mono E (Nat.zero_le k))
theorem NdQ.getD {E:Nat} {r:List Rat} (h : ∀ x∈r,NdQ E x) (h1:1≤E) (j:Nat):NdQ E (r.getD j 0):=by
 rw [List.getD_eq_getElem?_getD]
 by_cases hj:j<r.length
 ·rw [List.getElem?_eq_getElem hj]; exact h _ (List.getElem_mem hj)
 ·rw [List.getElem?_eq_none (by omega)]; exact NdQ.zero h1
theorem BdQ.row {E:Nat} {F:Mq} (h:BdQ E F) (i:Nat) : ∀ x∈F.getD i [],NdQ E x:=fun x hx=>by
 rw [List.getD_eq_getElem?_getD] at hx
 by_cases hj:i<F.length
 ·rw [List.getElem?_eq_getElem hj] at hx; exact h _ (List.getElem_mem hj) x hx
 ·rw [List.getElem?_eq_none (by omega)] at hx; exact absurd hx (by simp)
theorem BdQ.qa {E:Nat} {F:Mq} (h:BdQ E F) (h1:1≤E) (i j:Nat):NdQ E (qa F i j):=NdQ.getD (h.row i) h1 j
theorem BdQ.mono {E D:Nat} {F:Mq} (h:BdQ E F) (hD:E≤D):BdQ D F:=fun r hr x hx=>(h r hr x hx).mono hD
theorem BdQ.swap {E i j:Nat} {F:Mq} (h:BdQ E F) (hi:i<F.length) (hj:j<F.length):BdQ E (sw2 F [] i j):=fun r hr=>by
 obtain ⟨t,ht,rfl⟩:=List.getElem_of_mem hr;rw [sw2_get F [] hi hj ht];exact h _ (List.getElem_mem _)
theorem BdQ.div {E n k c:Nat} {F:Mq} (h:BdQ E F) (h1:1≤E) (hp:Go.Proofs.YtmhfccigejcphaaGreatDoor.qa F k c≠0):BdQ (2*E) (F.set k (divT (F.getD k []) (Go.Proofs.YtmhfccigejcphaaGreatDoor.qa F k c) n)):=fun r hr x hx=>by
 rcases List.mem_or_eq_of_mem_set hr with h2 | rfl
 ·exact (h r h2 x hx).mono (by omega)
 ·unfold divT at hx;obtain ⟨t,_,rfl⟩:=List.mem_map.1 hx;split
  ·exact ((NdQ.getD (h.row k) h1 t).div (h.qa h1 k c) hp).mono (by omega)
  ·exact (NdQ.getD (h.row k) h1 t).mono (by omega)
theorem BdQ.elim {E n k c i:Nat} {F:Mq} (h:BdQ E F) (h1:1≤E):BdQ (3*E+1) (elimTo F n k c i):=fun r hr x hx=>by
 unfold elimTo at hr;obtain ⟨t,_,rfl⟩:=List.mem_map.1 hr;split at hx
 ·unfold subT at hx;obtain ⟨u,_,rfl⟩:=List.mem_map.1 hx;split
  ·exact ((NdQ.getD (h.row t) h1 u).sub ((h.qa h1 t c).mul (NdQ.getD (h.row k) h1 u))).mono (by omega)
  ·exact (NdQ.getD (h.row t) h1 u).mono (by omega)
 ·exact (h.row t x hx).mono (by omega)
theorem BdQ.pivot {E n k c:Nat} {F:Mq} (h:BdQ E F) (h1:1≤E) (hp:Go.Proofs.YtmhfccigejcphaaGreatDoor.qa F k c≠0):BdQ (6*E+1) (pivQ F n k c):=by
 have:=(h.div (n:=n) (k:=k) (c:=c) h1 hp).elim (n:=n) (k:=k) (c:=c) (i:=F.length) (by omega);exact this.mono (by omega)
theorem dv_at {F:Mq} {k j:Nat} (p:Rat) (hk:k<F.length):qa (F.set k (divT (F.getD k []) p j)) k j=qa F k j:=by
 unfold qa;rw [getD_setQ F hk,if_pos rfl,divT_getD,if_neg (by omega)]
theorem dv_step {F:Mq} {n k j:Nat} (p:Rat) (hR:RectQ n F) (hk:k<F.length) (hj:j<n):(F.set k (divT (F.getD k []) p j)).set k (((F.set k (divT (F.getD k []) p j)).getD k []).set j (qa F k j/p))=F.set k (divT (F.getD k []) p (j+1)):=by
 rw [getD_setQ F hk,if_pos rfl,List.set_set]
 congr 1
 exact divT_step (by rw [rectQ_getD hR hk]; exact hj)
theorem dv_rect {F:Mq} {n k:Nat} (p:Rat) (j:Nat) (hR:RectQ n F) (hk:k<F.length):RectQ n (F.set k (divT (F.getD k []) p j)):=rectQ_set hR (by rw [divT_length,rectQ_getD hR hk])
theorem sb_i {F:Mq} {n i k j:Nat} (f:Rat) (hR:RectQ n F) (hi:i<F.length) (hk:k<F.length):qa (F.set i (subT (F.getD i []) f (F.getD k []) j)) i j=qa F i j:=by
 unfold qa;rw [getD_setQ F hi,if_pos rfl,subT_getD (by rw [rectQ_getD hR hi,rectQ_getD hR hk]),if_neg (by omega)]
theorem sb_k {F:Mq} {i k j:Nat} (f:Rat) (hi:i<F.length) (hik:i≠k):qa (F.set i (subT (F.getD i []) f (F.getD k []) j)) k j=qa F k j:=by
 unfold qa;rw [getD_setQ F hi,if_neg (fun e=>hik e.symm)]
theorem sb_step {F:Mq} {n i k j:Nat} (f:Rat) (hR:RectQ n F) (hi:i<F.length) (hj:j<n):(F.set i (subT (F.getD i []) f (F.getD k []) j)).set i (((F.set i (subT (F.getD i []) f (F.getD k []) j)).getD i []).set j (qa F i j-f*qa F k j))=F.set i (subT (F.getD i []) f (F.getD k []) (j+1)):=by
 rw [getD_setQ F hi,if_pos rfl,List.set_set]
 congr 1
 exact subT_step (by rw [rectQ_getD hR hi]; exact hj)
theorem el_row {F:Mq} {n k c i:Nat} (hi:i<F.length) (hk:k<F.length):(elimTo F n k c i).getD i []=F.getD i []∧(elimTo F n k c i).getD k []=F.getD k []:=by
 refine ⟨?_,?_⟩
 ·rw [elimTo_getD hi,if_neg (by omega)]
 ·rw [elimTo_getD hk,if_neg (fun h=>h.2 rfl)]
theorem rq_new (w:World) (a b:Value):OwnV 84 w.heap.size (w.alloc (.cells #[a,b] 84)) w.heap.size 2 [a,b] :=
 OwnV.of (Nat.le_refl _) Array.getElem?_push_size (by simp) (by unfold maxLen; omega) rfl rfl
theorem rq_set {w0 W:World} {g B:Nat} {a b:Value} (h:OwnV 84 B W g 2 [a,b]) (hE:Ext w0 W) (hg:w0.heap.size≤g) (x y:Value) :
  OwnV 84 B ((W.setCell ⟨g,0,none⟩ x).setCell ⟨g,1,none⟩ y) g 2 [x,y]∧Ext w0 ((W.setCell ⟨g,0,none⟩ x).setCell ⟨g,1,none⟩ y)∧W.grownBy ((W.setCell ⟨g,0,none⟩ x).setCell ⟨g,1,none⟩ y) (some g):=by
 obtain ⟨h1,g1⟩:=h.set 0 x;obtain ⟨h2,g2⟩:=h1.set 1 y;have hG:=grown_trans g1 g2;exact ⟨h2,ext_trans_grown hE hG hg,hG⟩
theorem rq_cell {W:World} {g B:Nat} {a b:Value} (h:OwnV 84 B W g 2 [a,b]):W.cell? ⟨g,0,none⟩=some a∧W.cell? ⟨g,1,none⟩=some b∧W.frozen? ⟨g,0,none⟩=false∧W.frozen? ⟨g,1,none⟩=false :=
 ⟨h.cell (j:=0) (by simp),h.cell (j:=1) (by simp),h.frozen 0,h.frozen 1⟩
theorem tone_any (w:World):Calls Tryz.prog 240 #[] w fun e w'=>e = .returned (RV 1)∧Ext w w':=by
 go_enter Tryz.func240,Tryz.ntmps240
 go_wp2_with fail;have e2:Lib.itoa 1=[49]:=by decide +kernel
 exact bodyPost_ret (v:=RV 1) (by simp [results,Tryz.results240,go_sem,e2]) rfl ⟨rfl,(Ext.refl w).alloc _⟩
theorem tzero_any (w:World):Calls Tryz.prog 241 #[] w fun e w'=>e = .returned (RV 0)∧Ext w w':=by
 go_enter Tryz.func241,Tryz.ntmps241
 go_wp2_with fail;have e1:Lib.itoa 0=[48]:=by decide +kernel
 have e2:Lib.itoa 1=[49]:=by decide +kernel
 exact bodyPost_ret (v:=RV 0) (by simp [results,Tryz.results241,go_sem,e1,e2]) rfl ⟨rfl,(Ext.refl w).alloc _⟩
theorem rat_outer {B B':Nat} {w:World} {g cap gx cx:Nat} {xs ys:List Value} (h:OwnV 58 B w g cap xs) (h':OwnV 84 B' w gx cx ys):gx≠g:=by
 intro e;exact own_ne (u:=slv gx ys.length cx) (v:=slv g xs.length cap) h' h (by decide) (g:=gx) rfl (by rw [e]; rfl)
structure RqM (B g cap n b5:Nat) (F:Mq) (ad:List (Nat×Nat)) (lv:Value) (ld:List Int) (det:Rat) (w:World):Prop where
 rect:RectQ n F
 grid:QgX B w (slv g F.length cap) F ad
 lead:RowV B w lv ld
 det:OwnV 84 B w b5 2 [I det.num,I det.den]
 low : ∀ p∈ad,p.1<b5
section
variable {B g cap n b5:Nat} {F:Mq} {ad:List (Nat×Nat)} {lv:Value} {ld:List Int} {det:Rat} {w w' w0:World}
theorem RqM.ext (h:RqM B g cap n b5 F ad lv ld det w) (he:Ext w w'):RqM B g cap n b5 F ad lv ld det w':=⟨h.rect,h.grid.ext he,h.lead.ext he,h.det.ext he,h.low⟩
theorem mem_of_some {i:Nat} {p:Nat×Nat} (h:ad[i]? = some p):p∈ad:=by
 obtain ⟨h1,rfl⟩:=List.getElem?_eq_some_iff.1 h;exact List.getElem_mem h1
theorem RqM.box (h:RqM B g cap n b5 F ad lv ld det w) (hE:Ext w0 w) (hb:w0.heap.size≤b5) (r:Rat) :
  Hid (RqM B g cap n b5 F ad lv ld r ((w.setCell ⟨b5,0,none⟩ (I r.num)).setCell ⟨b5,1,none⟩ (I r.den)))∧Ext w0 ((w.setCell ⟨b5,0,none⟩ (I r.num)).setCell ⟨b5,1,none⟩ (I r.den)):=by
 obtain ⟨h1,h2,h3⟩:=rq_set h.det hE hb (I r.num) (I r.den);refine ⟨hid ⟨h.rect,h.grid.keep (R:=(· = b5)) (Chg.of_grown h3 rfl) (fun e=>rat_outer h.grid.outer h.det e.symm) (fun i a _ _ e => ?_),own_kept h.lead h.det (by decide) h3,h1,h.low⟩,h2⟩;have:=h.low _ (List.getElem_mem a);omega
theorem RqM.el (h:RqM B g cap n b5 F ad lv ld det w) {i j:Nat} (hi:i<F.length) (hj:j<n) :
  ∃ gx cx,ad[i]? = some (gx,cx)∧w.cell? ⟨g,i,none⟩=some (slv gx n cx)∧w.cell? ⟨gx,j*2,none⟩=some (I (qa F i j).num)∧w.cell? ⟨gx,j*2+1,none⟩=some (I (qa F i j).den)∧gx≠g∧gx<b5:=by
 obtain ⟨gx,cx,h1,h2,h3,h4,h5⟩:=h.grid.el h.rect hi hj;exact ⟨gx,cx,h1,h2,h3,h4,h5,h.low _ (mem_of_some h1)⟩
theorem RqM.room (h:RqM B g cap n b5 F ad lv ld det w) (hn:0<n) {i gx cx:Nat} (hi:i<F.length) (ha:ad[i]? = some (gx,cx)):n≤cx:=by
 obtain ⟨_,_,k1,_,hO,_,hl⟩:=h.grid.at h.rect hn hi;rw [ha] at k1;injection k1 with k1
 injection k1 with q1 q2
 subst q1 q2;have:=hO.cap;omega
theorem RqM.put (h:RqM B g cap n b5 F ad lv ld det w) {i j:Nat} (hi:i<F.length) (hj:j<n) {gx cx:Nat} (ha:ad[i]? = some (gx,cx)) (r:Rat) :
  w.frozen? ⟨gx,j*2,none⟩=false∧w.frozen? ⟨gx,j*2+1,none⟩=false ∧
   Hid (RqM B g cap n b5 (F.set i ((F.getD i []).set j r)) ad lv ld det ((w.setCell ⟨gx,j*2,none⟩ (I r.num)).setCell ⟨gx,j*2+1,none⟩ (I r.den))) ∧
   Hid (w.grownBy ((w.setCell ⟨gx,j*2,none⟩ (I r.num)).setCell ⟨gx,j*2+1,none⟩ (I r.den)) (some gx))∧B≤gx∧gx<b5:=by
 obtain ⟨f0,f1,h1,h2,h3⟩:=h.grid.put h.rect hi hj ha r;have hlt:=h.low _ (mem_of_some ha);obtain ⟨gx',cx',k1,_,hO,_,_⟩:=h.grid.at h.rect (by omega) hi;rw [ha] at k1;injection k1 with k1
 injection k1 with q1 q2
 subst q1 q2;refine ⟨f0,f1,hid ⟨rectQ_set h.rect (by rw [List.length_set,rectQ_getD h.rect hi]),?_,own_kept h.lead hO (by decide) h2.out,h.det.other h2.out (fun e=>by simp at hlt; omega),h.low⟩,h2,h3,hlt⟩;rw [List.length_set]; exact h1.out
theorem RqM.app {lv':Value} {ld':List Int} (h:RqM B g cap n b5 F ad lv ld det w) (hG:w.grownBy w' lv.ownBlock) (hl:RowV B w' lv' ld'):RqM B g cap n b5 F ad lv' ld' det w':=by
 refine ⟨h.rect,⟨h.grid.len,own_kept h.grid.own h.lead (by decide) hG,fun i a b c => ?_,h.grid.dis⟩,hl,own_kept h.det h.lead (by decide) hG,h.low⟩;exact own_kept (h.grid.row i a b c) h.lead (by decide) hG
theorem sw2_memQ {α:Type} {l:List α} {d:α} {i j:Nat} (hi:i<l.length) (hj:j<l.length) {y:α} (h:y∈sw2 l d i j):y∈l:=by
 obtain ⟨t,ht,rfl⟩:=List.getElem_of_mem h;rw [sw2_get l d hi hj ht];exact List.getElem_mem _
theorem RqM.swap (h:RqM B g cap n b5 F ad lv ld det w) (hn:0<n) {i j gi ci gj cj:Nat} (hi:i<F.length) (hj:j<F.length) (hai:ad[i]? = some (gi,ci)) (haj:ad[j]? = some (gj,cj)) :
  Hid (RqM B g cap n b5 (sw2 F [] i j) (sw2 ad (0,0) i j) lv ld det ((w.setCell ⟨g,i,none⟩ (slv gj n cj)).setCell ⟨g,j,none⟩ (slv gi n ci))) ∧
   w.grownBy ((w.setCell ⟨g,i,none⟩ (slv gj n cj)).setCell ⟨g,j,none⟩ (slv gi n ci)) (some g)∧w.frozen? ⟨g,i,none⟩=false∧w.frozen? ⟨g,j,none⟩=false∧B≤g:=by
 obtain ⟨h1,h2,h3⟩:=h.grid.swapped h.rect hn hi hj hai haj;have hO:=h.grid.outer;refine ⟨hid ⟨h3,by rw [sw2_length]; exact h1,own_kept h.lead hO (by decide) h2,h.det.other h2 (fun e=>rat_outer hO h.det e),fun p hp=>h.low p (sw2_memQ (by rw [h.grid.len]; exact hi) (by rw [h.grid.len]; exact hj) hp)⟩,h2,hO.frozen _,hO.frozen _,hO.lt.1⟩
end
theorem ratNeg_any {a:Rat} (ha:SmQ a) (w:World):Calls Tryz.prog 122 #[RV a] w fun e w'=>e = .returned (RV (-a))∧Ext w w':=by
 have h:=fNeg_any (a:=a.num) (b:=a.den) (by have:=ha.1; unfold LIM; omega) w;rw [← Rat.neg_num] at h;have e:(-a).den=a.den:=Rat.neg_den a;rw [← e] at h;exact h
theorem set_self (F:Mq) (k:Nat):F.set k (F.getD k [])=F:=by
 refine List.ext_getElem (by simp) fun t h1 h2 => ?_
 rw [List.getElem_set];split
 ·rename_i e; subst e; rw [List.getD_eq_getElem?_getD,List.getElem?_eq_getElem h2]; rfl
 ·rfl
theorem qa_swap {F:Mq} {i j c:Nat} (hi:i<F.length) (hj:j<F.length):qa (sw2 F [] i j) i c=qa F j c:=by
 unfold qa;rw [sw2_getD F [] hi hj];split
 ·rename_i e; subst e; rfl
 ·rw [if_pos rfl]
end Go.Proofs.YtmhfccigejcphaaGreatDoor
