/- Part 19 of the proof of the claim: contracts of the functions that it reaches, and plain laws; no condition. -/
import Derived.Test.YtdmaofimeknkbaaGreatDoorQ13
import Derived.Test.YtdmaofimeknkbaaGreatDoorQ17
import Derived.Test.YtdmaofimeknkbaaGreatDoorQ12
import Derived.Test.YtdmaofimeknkbaaGreatDoorQ10
set_option maxRecDepth 100000
set_option maxHeartbeats 20000000
namespace Go.Proofs.YtdmaofimeknkbaaGreatDoor
section
open Go.RowKit Go.Sort
open Lib (hid)
theorem Kbz {a b:List Int} (hl:a.length=b.length) (h : ∀j,j<a.length->a.getD j 0=b.getD j 0):a=b:=by
 apply List.ext_getElem hl;intro i h1 h2;have:=h i h1;rwa [Ka h1,Ka h2] at this
theorem Kdn {w:World} {va vb:Value} {a b:List Int} (hA:KT w va a) (hB:KT w vb b) (hbig:a.length<=1000000) :
  Calls Tryz.prog 14 #[va,vb] w λe w'=>e = .returned (.bool (decide (a=b)))/\Ext w w':=by
 obtain ⟨sa,ga,oa,ca,rfl,hca,hSa⟩:=hA;obtain ⟨sb,gb,ob,cb,rfl,hcb,hSb⟩:=hB
 by_cases hl:a.length=b.length
 ·obtain ⟨n,hn⟩ : ∃n,n=a.length:=⟨_,rfl⟩
  rw [<-hl];rw [<-hn] at hbig ⊢;have HA:=hid hSa;have HB:=hid hSb;have Hn:=hid hn;have Hm:=hid (hn.trans hl);clear hSa hSb hl hn hca hcb
  go_enter Tryz.func14,Tryz.ntmps14
  go_wp2_with fail
  go_loopw [5] (λidx wr => ∃i:Nat,i<=n/\idx = .int .i64 i/\Hid (∀j,j<i->a.getD j 0=b.getD j 0)/\Ext w wr) (λidx _=>n-(intOf idx).toNat)
  case atStart=>exact ⟨0,by omega,by go_num,hid (λj h=>by omega),Ext.refl _⟩
  case round =>
   obtain ⟨i,hi,rfl,Hz,hE⟩:=hrel;generalize wr=X at *
   by_cases hlt:i<n
   ·have hii:(i:Int)<(n:Int):=by omega
    have c1:=(HA.out.ext hE).cell i (.int .i64 (a[i]'(by rw [<-Hn.out];exact hlt))) (Qg (by rw [<-Hn.out];exact hlt));have c2:=(HB.out.ext hE).cell i (.int .i64 (b[i]'(by rw [<-Hm.out];exact hlt))) (Qg (by rw [<-Hm.out];exact hlt));obtain rfl:=HA.out.addr (by rw [Kq,<-Hn.out];omega);obtain rfl:=HB.out.addr (by rw [Kq,<-Hm.out];omega);obtain ⟨x,hx⟩ : ∃x,x=a[i]'(by rw [<-Hn.out];exact hlt):=⟨_,rfl⟩
    obtain ⟨y,hy⟩ : ∃y,y=b[i]'(by rw [<-Hm.out];exact hlt):=⟨_,rfl⟩
    rw [<-hx] at c1;rw [<-hy] at c2;have Hx:=hid (show a.getD i 0=x by rw [hx,Ka (by rw [<-Hn.out];exact hlt)]);have Hy:=hid (show b.getD i 0=y by rw [hy,Ka (by rw [<-Hm.out];exact hlt)]);clear hx hy
    by_cases hxy:x=y
    ·subst hxy;go_wp2_with fail
     go_quiet (fail)
     go_wp2_with fail;go_roundw
     case rel=>exact ⟨i+1,by omega,by go_num,hid (λj hj=>by
      by_cases e:j=i
      ·subst e;rw [Hx.out,Hy.out]
      ·exact Hz.out j (by omega)),hE.drewN _⟩
     case measure=>simp [intOf]<;>omega
    ·have hb1:(x==y)=false:=beq_eq_false_iff_ne.2 hxy;have hb2:(x != y)=true:=by simp [bne,hb1]
     have Hne:=hid (show decide (a=b)=false from decide_eq_false (λe=>hxy (by rw [<-Hx.out,<-Hy.out,e])));go_wp2_with fail
     go_quiet (fail)
     go_wp2_with fail;go_ret;exact ⟨by rw [Hne.out];rfl,hE.drewN _⟩
   ·have Heq:=hid (show decide (a=b)=true from decide_eq_true (Kbz (by rw [<-Hn.out,<-Hm.out]) (λj hj=>Hz.out j (by rw [<-Hn.out] at hj;omega))));go_wp2_with fail;go_ret;exact ⟨by rw [Heq.out];rfl,hE⟩
 ·have hne:decide (a=b)=false:=decide_eq_false (λe=>hl (by rw [e]));rw [hne];have h1 : ¬((a.length:Int)=(b.length:Int)):=by omega
  have h2:((a.length:Int)==(b.length:Int))=false:=beq_eq_false_iff_ne.2 h1;have h3:((a.length:Int) != (b.length:Int))=true:=by simp [bne,h2]
  clear hSa hSb hca hcb hne;generalize a.length=n at *;generalize b.length=m at *
  go_enter Tryz.func14,Tryz.ntmps14
  go_wp2_with fail;go_ret;exact ⟨rfl,Ext.refl _⟩
theorem KlR {w:World} {va vb:Value} {a b:List Int} (hA:KT w va a) (hB:KT w vb b) (hbig:a.length<=1000000) :
  Calls Tryz.prog 37 #[va,vb] w λe w'=>e = .returned (.bool (decide (a=b)))/\Ext w w':=by
 obtain ⟨sa,ga,oa,ca,rfl,hca,hSa⟩:=hA;obtain ⟨sb,gb,ob,cb,rfl,hcb,hSb⟩:=hB
 by_cases hl:a.length=b.length
 ·obtain ⟨n,hn⟩ : ∃n,n=a.length:=⟨_,rfl⟩
  rw [<-hl];rw [<-hn] at hbig ⊢;have HA:=hid hSa;have HB:=hid hSb;have Hn:=hid hn;have Hm:=hid (hn.trans hl);clear hSa hSb hl hn hca hcb
  go_enter Tryz.func37,Tryz.ntmps37
  go_wp2_with fail
  go_loopw [13] (λidx wr => ∃i:Nat,i<=n/\idx = .int .i64 i/\Hid (∀j,j<i->a.getD j 0=b.getD j 0)/\Ext w wr) (λidx _=>n-(intOf idx).toNat)
  case atStart=>exact ⟨0,by omega,by go_num,hid (λj h=>by omega),Ext.refl _⟩
  case round =>
   obtain ⟨i,hi,rfl,Hz,hE⟩:=hrel;generalize wr=X at *
   by_cases hlt:i<n
   ·have hii:(i:Int)<(n:Int):=by omega
    have c1:=(HA.out.ext hE).cell i (.int .i64 (a[i]'(by rw [<-Hn.out];exact hlt))) (Qg (by rw [<-Hn.out];exact hlt));have c2:=(HB.out.ext hE).cell i (.int .i64 (b[i]'(by rw [<-Hm.out];exact hlt))) (Qg (by rw [<-Hm.out];exact hlt));obtain rfl:=HA.out.addr (by rw [Kq,<-Hn.out];omega);obtain rfl:=HB.out.addr (by rw [Kq,<-Hm.out];omega);obtain ⟨x,hx⟩ : ∃x,x=a[i]'(by rw [<-Hn.out];exact hlt):=⟨_,rfl⟩
    obtain ⟨y,hy⟩ : ∃y,y=b[i]'(by rw [<-Hm.out];exact hlt):=⟨_,rfl⟩
    rw [<-hx] at c1;rw [<-hy] at c2;have Hx:=hid (show a.getD i 0=x by rw [hx,Ka (by rw [<-Hn.out];exact hlt)]);have Hy:=hid (show b.getD i 0=y by rw [hy,Ka (by rw [<-Hm.out];exact hlt)]);clear hx hy
    by_cases hxy:x=y
    ·subst hxy;go_wp2_with fail
     go_quiet (fail)
     go_wp2_with fail;go_roundw
     case rel=>exact ⟨i+1,by omega,by go_num,hid (λj hj=>by
      by_cases e:j=i
      ·subst e;rw [Hx.out,Hy.out]
      ·exact Hz.out j (by omega)),hE.drewN _⟩
     case measure=>simp [intOf]<;>omega
    ·have hb1:(x==y)=false:=beq_eq_false_iff_ne.2 hxy;have hb2:(x != y)=true:=by simp [bne,hb1]
     have Hne:=hid (show decide (a=b)=false from decide_eq_false (λe=>hxy (by rw [<-Hx.out,<-Hy.out,e])));go_wp2_with fail
     go_quiet (fail)
     go_wp2_with fail;go_ret;exact ⟨by rw [Hne.out];rfl,hE.drewN _⟩
   ·have Heq:=hid (show decide (a=b)=true from decide_eq_true (Kbz (by rw [<-Hn.out,<-Hm.out]) (λj hj=>Hz.out j (by rw [<-Hn.out] at hj;omega))));go_wp2_with fail;go_ret;exact ⟨by rw [Heq.out];rfl,hE⟩
 ·have hne:decide (a=b)=false:=decide_eq_false (λe=>hl (by rw [e]));rw [hne];have h1 : ¬((a.length:Int)=(b.length:Int)):=by omega
  have h2:((a.length:Int)==(b.length:Int))=false:=beq_eq_false_iff_ne.2 h1;have h3:((a.length:Int) != (b.length:Int))=true:=by simp [bne,h2]
  clear hSa hSb hca hcb hne;generalize a.length=n at *;generalize b.length=m at *
  go_enter Tryz.func37,Tryz.ntmps37
  go_wp2_with fail;go_ret;exact ⟨rfl,Ext.refl _⟩
theorem Kgo {w:World} {va vb:Value} {a b:List Int} (hA:KT w va a) (hB:KT w vb b) (hbig:a.length<=1000000) :
  Calls Tryz.prog 20 #[va,vb] w λe w'=>e = .returned (.bool (decide (a=b)))/\Ext w w':=by
 have h:=hid (KlR hA hB hbig);clear hA hB
 go_enter Tryz.func20,Tryz.ntmps20
 go_wp2_with fail;refine h.out.mono ?_;rintro e w1 ⟨rfl,hE⟩;go_wp2_with fail;go_ret;exact ⟨rfl,hE⟩
theorem KaD {w0 w:World} {ga ca gb ob cb:Nat} {sb:Option Addr} {k:Int} {a b:List Int} (hO:Kd 45 w0.heap.size w ga ca (ss a)) (hB:Sl w sb gb ob (ss b)) (hne:gb≠ga)
  (hlen:b.length=a.length) (hl:a.length<=1000000)
  (hbig : ∀(i:Nat) (h:i<b.length) (h':i<a.length),nd a[i]<LIM/\nd (k*b[i])<LIM/\nd k+nd b[i]<=LIM) (hL:Laid w0) (hE0:Ext w0 w) :
  Calls Tryz.prog 95 #[slv ga a.length ca,.slice sb a.length cb,I k] w λe w'=>e = .returned (.tuple #[])/\Kd 45 w0.heap.size w' ga ca (ss (QR k a b))/\w.grownBy w' (some ga):=by
 have hkz:(Lib.itoa k==[48])=decide (k=0):=KB k
 by_cases hk0:k=0
 ·rw [decide_eq_true hk0] at hkz;subst hk0;rw [Kcj a b (by omega)];clear hbig hL hlen hl hB
  go_enter Tryz.func95,Tryz.ntmps95
  go_wp2_with fail;refine bodyPost_ret (results_none rfl _ _ _) rfl ?_;exact ⟨rfl,hO,World.grownBy.refl _ _⟩
 ·rw [decide_eq_false hk0] at hkz;have HL:=hid hL;have HB:=hid hB;have Hbig:=hid hbig;have Hlen:=hid hlen;clear hL hB hbig hk0 hlen
  go_enter Tryz.func95,Tryz.ntmps95
  go_wp2_with fail
  go_loopw [11] (λidx wr => ∃i:Nat,i<=a.length/\idx = .int .i64 i/\Kd 45 w0.heap.size wr ga ca (ss (QR k a (b.take i)))/\w.grownBy wr (some ga)) (λidx _=>a.length-(intOf idx).toNat)
  case atStart=>exact ⟨0,by omega,by go_num,by simpa [XH] using hO,World.grownBy.refl _ _⟩
  case round =>
   obtain ⟨i,hi,rfl,hOr,hG⟩:=hrel;have hga:=hO.lt.1
   by_cases hlt:i<a.length
   ·have hib:i<b.length:=by rw [Hlen.out];exact hlt
    obtain ⟨x,hx⟩ : ∃x,x=a[i]:=⟨_,rfl⟩
    obtain ⟨y,hy⟩ : ∃y,y=b[i]:=⟨_,rfl⟩
    obtain rfl:=HB.out.addr (by simpa using (by omega:0<b.length))
    have cb:wr.cell? ⟨gb,ob+i,none⟩=some (I y):=by
     refine Kl hG hne ?_;rw [hy];exact HB.out.cell i _ (by simp [ss,hib])
    have ca':wr.cell? ⟨ga,i,none⟩=some (I x):=by
     rw [hOr.cell (by simpa using hlt)];simp only [ss,List.getElem_map];rw [Kev k a _ i hlt (by rw [List.length_take];omega),hx]
    have fa:=hOr.frozen i;have hEr:Ext w0 wr:=Kb hE0 hG hga;have hstep:=Kci k a b i hib hlt;rw [<-hx,<-hy] at hstep;have Hstep:=hid hstep;obtain ⟨n1,n2,n3⟩:=Hbig.out i hib hlt;rw [<-hx] at n1;rw [<-hy] at n2 n3;have hii:(i:Int)<(a.length:Int):=by omega
    have hEr2:=hid hEr;have c1:=hid (Qn (w:=wr) (λW h=>ZR (a:=k) (b:=y) (w:=W) n3 (HL.out.ext (hEr2.out.trans h))));have c2:=hid (Qn (w:=wr) (λW h=>Ka4 (a:=x) (b:=k*y) (w:=W) n1 n2 (HL.out.ext (hEr2.out.trans h))));have k1:=cell_regrown ca';have k2:=cell_regrown cb;clear hx hy hstep n1 n2 n3 hO hEr hib;go_wp2_with fail;refine Km 13 (by kernel_rfl) (by kernel_rfl) ?_;simp only [List.take_succ_cons,List.take_zero,List.drop_succ_cons,List.drop_zero]
    repeat (quiet_step (first | exact c1.out _ _ | exact c2.out _ _))
    refine wpQuiet_nil ?_;intro _ hw';obtain ⟨⟨dq,osq⟩,hw''⟩:=hw';subst hw'';have hE5:=Kk wr dq osq;have hO5:=hOr.ext hE5;have d5:=hE5.cell ca';clear c1 c2 k1 k2;generalize grow (redrawn wr dq) osq=w5 at *;have f5:=hO5.frozen i;obtain ⟨hO6,hG6⟩:=hO5.set i (I (x-k*y));rw [<-Xr,<-Hstep.out] at hO6;have hG5:=Kg hG (Kg (QT hE5 (some ga)) hG6);clear hE5 hO5 hG6;go_wp2_with fail;go_roundw
    case rel=>exact ⟨i+1,by omega,by go_num,hO6,hG5⟩
    case measure=>simp [intOf]<;>omega
   ·go_wp2_with fail
    go_end0
    refine ⟨rfl,?_,hG⟩;rw [List.take_of_length_le (by rw [Hlen.out];omega)] at hOr;exact hOr
def Kb6 (o j:Nat) (l:List Int):List Int:=l.take o++JC j (l.drop o)
@[simp] theorem Kpr (o j:Nat) (l:List Int):(Kb6 o j l).length=l.length:=by simp [Kb6];omega
theorem Kfp (o:Nat) (l:List Int):Kb6 o 0 l=l:=by rw [Kb6,KiQ,List.take_append_drop]
theorem Khw {o j n:Nat} {l:List Int} (hl:l.length=o+n) (h:j<n):(Kb6 o j l)[o+j]'(by simp;omega)=l[o+j]:=by
 unfold Kb6;rw [List.getElem_append_right (by simp;omega)];have e:(List.take o l).length=o:=by simp;omega
 simp only [e,Nat.add_sub_cancel_left];rw [Kk6 (by simp;omega),List.getElem_drop]
theorem Kfo {o j n:Nat} {l:List Int} (hl:l.length=o+n) (h:j<n):Kb6 o (j+1) l=(Kb6 o j l).set (o+j) (-l[o+j]):=by
 unfold Kb6;have e:(List.take o l).length=o:=by simp;omega
 rw [List.set_append_right _ _ (by omega),e,Nat.add_sub_cancel_left,KiP (by simp;omega),List.getElem_drop]
theorem Khv {o n:Nat} {l:List Int} (hl:l.length=o+n):Kb6 o n l=l.take o++(l.drop o).map (λz => -z):=by
 unfold Kb6;rw [show n=(l.drop o).length by simp;omega,Kk5]
theorem Keu {B:Nat} {w:World} {gx cx o n cp:Nat} {a:List Int} (hX:Kd 45 B w gx cx (ss a)) (hn:a.length=o+n) (hl:n<=1000000) (hbig : ∀z∈a,nd z<=LIM) :
  Calls Tryz.prog 68 #[.slice (some ⟨gx,o,none⟩) n cp] w λe w'=>e = .returned (.tuple #[])/\Kd 45 B w' gx cx (ss (a.take o++(a.drop o).map λz => -z))/\w.grownBy w' (some gx):=by
 have Hb:=hid hbig;have Hn:=hid hn;clear hbig hn
 go_enter Tryz.func68,Tryz.ntmps68
 go_wp2_with fail
 go_loopw [5] (λjdx wi => ∃j:Nat,j<=n/\jdx = .int .i64 j/\Kd 45 B wi gx cx (ss (Kb6 o j a))/\w.grownBy wi (some gx)) (λjdx _=>n-(intOf jdx).toNat)
 case atStart=>exact ⟨0,by omega,by go_num,by rw [Kfp];exact hX,World.grownBy.refl _ _⟩
 case round =>
  obtain ⟨j,hj,rfl,hOj,hG⟩:=hrel
  by_cases hlt:j<n
  ·have hjl:o+j<a.length:=by rw [Hn.out];omega
   obtain ⟨x,hx⟩ : ∃x,x=a[o+j]:=⟨_,rfl⟩
   have cj:wr.cell? ⟨gx,o+j,none⟩=some (I x):=by
    rw [hOj.cell (by simpa using hjl)];simp only [ss,List.getElem_map];rw [Khw Hn.out hlt,hx]
   have hneg:=hid (Kah (z:=x) (Hb.out x (by rw [hx];exact List.getElem_mem hjl)));have Hst:=hid (Kfo Hn.out hlt);rw [<-hx] at Hst;have hjj:(j:Int)<(n:Int):=by omega
   clear hx hX hjl;go_wp2_with fail;refine (hneg.out _).mono ?_;rintro e w5 ⟨rfl,hE5⟩;have f5:=(hOj.ext hE5).frozen (o+j);have d5:=hE5.cell cj;obtain ⟨hO6,hG6⟩:=(hOj.ext hE5).set (o+j) (I (-x));rw [<-Xr,<-Hst.out] at hO6;have hG7:=Kg hG (Kg (QT hE5 (some gx)) hG6);clear hE5 hOj hG6 hG;go_wp2_with fail;go_roundw
   case rel=>exact ⟨j+1,by omega,by go_num,hO6,hG7⟩
   case measure=>simp [intOf]<;>omega
  ·have hje:j=n:=by omega
   subst hje;rw [Khv Hn.out] at hOj;go_wp2_with fail
   go_end0
   exact ⟨rfl,hOj,hG⟩
theorem Kch {B:Nat} {w:World} {gx cx n:Nat} {a:List Int} (hX:Kd 45 B w gx cx (ss a)) (hn:a.length=n) (hl:n<=1000000) (hbig : ∀z∈a,nd z<=LIM) :
  Calls Tryz.prog 68 #[slv gx n cx] w λe w'=>e = .returned (.tuple #[])/\Kd 45 B w' gx cx (ss (a.map λz => -z))/\w.grownBy w' (some gx):=by
 have:=Keu (o:=0) (cp:=cx) hX (by omega) hl hbig;simpa using this
theorem Kk1 {w0 w:World} {ga ca gb ob cb:Nat} {sb:Option Addr} {k:Int} {a b:List Int} (hO:Kd 45 w0.heap.size w ga ca (ss a)) (hB:Sl w sb gb ob (ss b)) (hne:gb≠ga)
  (hlen:b.length=a.length) (hl:a.length<=1000000)
  (hbig : ∀(i:Nat) (h:i<b.length) (h':i<a.length),nd a[i]<LIM/\nd (k*b[i])<LIM/\nd k+nd b[i]<=LIM) (hL:Laid w0) (hE0:Ext w0 w) :
  Calls Tryz.prog 99 #[slv ga a.length ca,I k,.slice sb a.length cb] w λe w'=>e = .returned (.tuple #[])/\Kd 45 w0.heap.size w' ga ca (ss (QR k a b))/\w.grownBy w' (some ga):=by
 have hkz:(Lib.itoa k==[48])=decide (k=0):=KB k
 by_cases hk0:k=0
 ·rw [decide_eq_true hk0] at hkz;subst hk0;rw [Kcj a b (by omega)];clear hbig hL hlen hl hB
  go_enter Tryz.func99,Tryz.ntmps99
  go_wp2_with fail;refine bodyPost_ret (results_none rfl _ _ _) rfl ?_;exact ⟨rfl,hO,World.grownBy.refl _ _⟩
 ·rw [decide_eq_false hk0] at hkz;have HL:=hid hL;have HB:=hid hB;have Hbig:=hid hbig;have Hlen:=hid hlen;clear hL hB hbig hk0 hlen
  go_enter Tryz.func99,Tryz.ntmps99
  go_wp2_with fail
  go_loopw [12] (λidx wr => ∃i:Nat,i<=a.length/\idx = .int .i64 i/\Kd 45 w0.heap.size wr ga ca (ss (QR k a (b.take i)))/\w.grownBy wr (some ga)) (λidx _=>a.length-(intOf idx).toNat)
  case atStart=>exact ⟨0,by omega,by go_num,by simpa [XH] using hO,World.grownBy.refl _ _⟩
  case round =>
   obtain ⟨i,hi,rfl,hOr,hG⟩:=hrel;have hga:=hO.lt.1
   by_cases hlt:i<a.length
   ·have hib:i<b.length:=by rw [Hlen.out];exact hlt
    obtain ⟨x,hx⟩ : ∃x,x=a[i]:=⟨_,rfl⟩
    obtain ⟨y,hy⟩ : ∃y,y=b[i]:=⟨_,rfl⟩
    obtain rfl:=HB.out.addr (by simpa using (by omega:0<b.length))
    have cb:wr.cell? ⟨gb,ob+i,none⟩=some (I y):=by
     refine Kl hG hne ?_;rw [hy];exact HB.out.cell i _ (by simp [ss,hib])
    have ca':wr.cell? ⟨ga,i,none⟩=some (I x):=by
     rw [hOr.cell (by simpa using hlt)];simp only [ss,List.getElem_map];rw [Kev k a _ i hlt (by rw [List.length_take];omega),hx]
    have fa:=hOr.frozen i;have hEr:Ext w0 wr:=Kb hE0 hG hga;have hstep:=Kci k a b i hib hlt;rw [<-hx,<-hy] at hstep;have Hstep:=hid hstep;obtain ⟨n1,n2,n3⟩:=Hbig.out i hib hlt;rw [<-hx] at n1;rw [<-hy] at n2 n3;have hii:(i:Int)<(a.length:Int):=by omega
    have hEr2:=hid hEr;have c1:=hid (Qn (w:=wr) (λW h=>ZR (a:=k) (b:=y) (w:=W) n3 (HL.out.ext (hEr2.out.trans h))));have c2:=hid (Qn (w:=wr) (λW h=>Ka4 (a:=x) (b:=k*y) (w:=W) n1 n2 (HL.out.ext (hEr2.out.trans h))));have k1:=cell_regrown ca';have k2:=cell_regrown cb;clear hx hy hstep n1 n2 n3 hO hEr hib;go_wp2_with fail;refine Km 10 (by kernel_rfl) (by kernel_rfl) ?_;simp only [List.take_succ_cons,List.take_zero,List.drop_succ_cons,List.drop_zero]
    repeat (quiet_step (first | exact c1.out _ _ | exact c2.out _ _))
    refine wpQuiet_nil ?_;intro _ hw';obtain ⟨⟨dq,osq⟩,hw''⟩:=hw';subst hw'';have hE5:=Kk wr dq osq;have hO5:=hOr.ext hE5;have d5:=hE5.cell ca';clear c1 c2 k1 k2;generalize grow (redrawn wr dq) osq=w5 at *;have f5:=hO5.frozen i;obtain ⟨hO6,hG6⟩:=hO5.set i (I (x-k*y));rw [<-Xr,<-Hstep.out] at hO6;have hG5:=Kg hG (Kg (QT hE5 (some ga)) hG6);clear hE5 hO5 hG6;go_wp2_with fail;go_roundw
    case rel=>exact ⟨i+1,by omega,by go_num,hO6,hG5⟩
    case measure=>simp [intOf]<;>omega
   ·go_wp2_with fail
    go_end0
    refine ⟨rfl,?_,hG⟩;rw [List.take_of_length_le (by rw [Hlen.out];omega)] at hOr;exact hOr
theorem Kk2 {B:Nat} {w:World} {gx cx o n cp:Nat} {a:List Int} (hX:Kd 45 B w gx cx (ss a)) (hn:a.length=o+n) (hl:n<=1000000) (hbig : ∀z∈a,nd z<=LIM) :
  Calls Tryz.prog 100 #[.slice (some ⟨gx,o,none⟩) n cp] w λe w'=>e = .returned (.tuple #[])/\Kd 45 B w' gx cx (ss (a.take o++(a.drop o).map λz => -z))/\w.grownBy w' (some gx):=by
 have Hb:=hid hbig;have Hn:=hid hn;clear hbig hn
 go_enter Tryz.func100,Tryz.ntmps100
 go_wp2_with fail
 go_loopw [6] (λjdx wi => ∃j:Nat,j<=n/\jdx = .int .i64 j/\Kd 45 B wi gx cx (ss (Kb6 o j a))/\w.grownBy wi (some gx)) (λjdx _=>n-(intOf jdx).toNat)
 case atStart=>exact ⟨0,by omega,by go_num,by rw [Kfp];exact hX,World.grownBy.refl _ _⟩
 case round =>
  obtain ⟨j,hj,rfl,hOj,hG⟩:=hrel
  by_cases hlt:j<n
  ·have hjl:o+j<a.length:=by rw [Hn.out];omega
   obtain ⟨x,hx⟩ : ∃x,x=a[o+j]:=⟨_,rfl⟩
   have cj:wr.cell? ⟨gx,o+j,none⟩=some (I x):=by
    rw [hOj.cell (by simpa using hjl)];simp only [ss,List.getElem_map];rw [Khw Hn.out hlt,hx]
   have hneg:=hid (Kah (z:=x) (Hb.out x (by rw [hx];exact List.getElem_mem hjl)));have Hst:=hid (Kfo Hn.out hlt);rw [<-hx] at Hst;have hjj:(j:Int)<(n:Int):=by omega
   clear hx hX hjl;go_wp2_with fail;refine (hneg.out _).mono ?_;rintro e w5 ⟨rfl,hE5⟩;have f5:=(hOj.ext hE5).frozen (o+j);have d5:=hE5.cell cj;obtain ⟨hO6,hG6⟩:=(hOj.ext hE5).set (o+j) (I (-x));rw [<-Xr,<-Hst.out] at hO6;have hG7:=Kg hG (Kg (QT hE5 (some gx)) hG6);clear hE5 hOj hG6 hG;go_wp2_with fail;go_roundw
   case rel=>exact ⟨j+1,by omega,by go_num,hO6,hG7⟩
   case measure=>simp [intOf]<;>omega
  ·have hje:j=n:=by omega
   subst hje;rw [Khv Hn.out] at hOj;go_wp2_with fail
   go_end0
   exact ⟨rfl,hOj,hG⟩
theorem Km0 {B:Nat} {w:World} {gx cx n:Nat} {a:List Int} (hX:Kd 45 B w gx cx (ss a)) (hn:a.length=n) (hl:n<=1000000) (hbig : ∀z∈a,nd z<=LIM) :
  Calls Tryz.prog 100 #[slv gx n cx] w λe w'=>e = .returned (.tuple #[])/\Kd 45 B w' gx cx (ss (a.map λz => -z))/\w.grownBy w' (some gx):=by
 have:=Kk2 (o:=0) (cp:=cx) hX (by omega) hl hbig;simpa using this
def KQ (ls:List Ln):Mx:=ls.map (·.1)
@[simp] theorem Kj (ls:List Ln):(KQ ls).length=ls.length:=by simp [KQ]
theorem Qs (ls:List Ln) (i:Nat):(KQ ls).getD i []=(ls.getD i default).1:=by
 unfold KQ;simp only [List.getD_eq_getElem?_getD,List.getElem?_map]
 cases ls[i]?<;>rfl
theorem KaB (ls:List Ln) (i:Nat) (l:Ln):KQ (ls.set i l)=(KQ ls).set i l.1:=by simp [KQ,List.map_set]
theorem KfC (ls:List Ln) (i j:Nat):KQ (swp ls i j)=sw2 (KQ ls) [] i j:=by
 unfold swp sw2;rw [KaB,KaB,Qs,Qs]
theorem Kcd (M:Mx):KQ (ln1 M)=M:=by simp [KQ,ln1,Function.comp_def]
structure Gr (B:Nat) (w:World) (g cap N n:Nat) (ad:List (Nat×Nat)) (ls:List Ln):Prop where
 gr:GrX B w (slv g N cap) (KQ ls) ad
 len:ls.length=N
 dim:Dim n 0 ls
theorem Gr.ext {B:Nat} {w w':World} {g cap N n:Nat} {ad:List (Nat×Nat)} {ls:List Ln} (h:Gr B w g cap N n ad ls) (he:Ext w w'):Gr B w' g cap N n ad ls:=⟨h.gr.ext he,h.len,h.dim⟩
theorem Gr.rect {B:Nat} {w:World} {g cap N n:Nat} {ad:List (Nat×Nat)} {ls:List Ln} (h:Gr B w g cap N n ad ls):Ku n (KQ ls):=λr hr=>by
 obtain ⟨l,hl,rfl⟩:=List.mem_map.1 hr;exact (h.dim l hl).1
theorem Gr.grl {B:Nat} {w:World} {g cap N n:Nat} {ad:List (Nat×Nat)} {ls:List Ln} (h:Gr B w g cap N n ad ls):GrX B w (slv g (KQ ls).length cap) (KQ ls) ad:=by
 have:=h.gr;rwa [<-h.len,<-Kj] at this
theorem Gr.base {B:Nat} {w:World} {g cap N n:Nat} {ad:List (Nat×Nat)} {ls:List Ln} (h:Gr B w g cap N n ad ls):B<=g/\g<w.heap.size:=h.grl.outer.lt
theorem Gr.fz {B:Nat} {w:World} {g cap N n:Nat} {ad:List (Nat×Nat)} {ls:List Ln} (h:Gr B w g cap N n ad ls) (o:Nat):w.frozen? ⟨g,o,none⟩=false:=h.grl.outer.frozen o
theorem KhX {r:List Int} {c:Nat} (h:c<r.length) (h':c<(ss r).length):(ss r)[c]=I (r.getD c 0):=by rw [Ka h];simp [ss]
theorem Gr.ln {B:Nat} {w:World} {g cap N n d i c:Nat} {ad:List (Nat×Nat)} {ls:List Ln} (h:Gr B w g cap N n ad ls) (hi:d+i<N) (hc:c<n) :
  ∃gx cx,ad[d+i]? = some (gx,cx)/\w.cell? ⟨g,d+i,none⟩=some (slv gx n cx)/\w.cell? ⟨gx,c,none⟩=some (I (cols c d ls i))/\Kd 45 B w gx cx (ss (ls.getD (d+i) default).1)/\gx≠g:=by
 obtain ⟨gx,cx,h1,h2,h3,h4,h5⟩:=h.grl.at h.rect (by omega) (i:=d+i) (by rw [Kj,h.len];exact hi);rw [Qs] at h3 h5;refine ⟨gx,cx,h1,h2,?_,h3,h4⟩;rw [h3.cell (j:=c) (by rw [Kx,h5];exact hc)];exact congrArg some (KhX (by rw [h5];exact hc) _)
theorem Gr.ne {B:Nat} {w:World} {g cap N n i t gx cx gt ct:Nat} {ad:List (Nat×Nat)} {ls:List Ln} (h:Gr B w g cap N n ad ls) (hn:0<n) (hi:i<N) (ht:t<N) (hne:i≠t) (hai:ad[i]? = some (gx,cx)) (hat:ad[t]? = some (gt,ct)):gx≠gt:=by
 obtain ⟨h1,e1⟩:=List.getElem?_eq_some_iff.1 hai;obtain ⟨h2,e2⟩:=List.getElem?_eq_some_iff.1 hat;have hl : ∀j (hj:j<(KQ ls).length),0<(KQ ls)[j].length:=λj hj=>by rw [h.rect _ (List.getElem_mem hj)];exact hn
 have hi':i<(KQ ls).length:=by rw [Kj,h.len];exact hi
 have ht':t<(KQ ls).length:=by rw [Kj,h.len];exact ht
 have:=h.gr.dis i t h1 h2 hi' ht' (hl i hi') (hl t ht') hne;rw [e1,e2] at this;exact this
theorem Gr.wrote {B:Nat} {w w':World} {g cap N n i gx cx:Nat} {ad:List (Nat×Nat)} {ls:List Ln} (h:Gr B w g cap N n ad ls) (hn:0<n) (hi:i<N) (hai:ad[i]? = some (gx,cx)) {l:Ln} (hl:l.1.length=n/\l.2.length=0)
  (hO:Kd 45 B w' gx cx (ss l.1)) (hG:w.grownBy w' (some gx)):Gr B w' g cap N n ad (ls.set i l):=by
 have hi':i<(KQ ls).length:=by rw [Kj,h.len];exact hi
 have h1:=h.grl.wrote hi' hai (r:=l.1) (by rw [Qs,hl.1,(h.dim.getD (by rw [h.len];exact hi)).1]) (by omega) hO (Chg.of_grown hG rfl);rw [<-KaB,Kj,h.len] at h1;exact ⟨h1,by rw [List.length_set];exact h.len,h.dim.set i hl⟩
theorem Gr.swap {B:Nat} {w:World} {g cap N n i j gi ci gj cj:Nat} {ad:List (Nat×Nat)} {ls:List Ln} (h:Gr B w g cap N n ad ls) (hn:0<n) (hi:i<N) (hj:j<N) (hai:ad[i]? = some (gi,ci)) (haj:ad[j]? = some (gj,cj)) :
  Gr B ((w.setCell ⟨g,i,none⟩ (slv gj n cj)).setCell ⟨g,j,none⟩ (slv gi n ci)) g cap N n (sw2 ad (0,0) i j) (swp ls i j)
   /\ w.grownBy ((w.setCell ⟨g,i,none⟩ (slv gj n cj)).setCell ⟨g,j,none⟩ (slv gi n ci)) (some g):=by
 have hi':i<(KQ ls).length:=by rw [Kj,h.len];exact hi
 have hj':j<(KQ ls).length:=by rw [Kj,h.len];exact hj
 obtain ⟨h1,h2,h3⟩:=h.grl.swapped h.rect hn hi' hj' hai haj;rw [<-KfC,Kj,h.len] at h1;refine ⟨⟨h1,by rw [Yp];exact h.len,?_⟩,h2⟩;unfold swp;exact (h.dim.set i (h.dim.getD (by rw [h.len];exact hj))).set j (h.dim.getD (by rw [h.len];exact hi))
theorem KeE {w0 w:World} {g cap N n i t E gx cx gt ct:Nat} {q:Int} {ad:List (Nat×Nat)} {ls:List Ln} (h:Gr w0.heap.size w g cap N n ad ls) (hn:0<n) (hn2:n<=1000000) (hi:i<N) (ht:t<N) (hne:i≠t)
  (hai:ad[i]? = some (gx,cx)) (hat:ad[t]? = some (gt,ct)) (hA:All (λz=>z.natAbs<2^E) (ls.getD i default)) (hB:All (λz=>z.natAbs<2^E) (ls.getD t default)) (hq:q.natAbs<2^E) (hE:2*E+2<LIM) (hL:Laid w0) (hE0:Ext w0 w) :
  Calls Tryz.prog 95 #[slv gx n cx,slv gt n ct,I q] w λe w' =>
   e = .returned (.tuple #[])/\Gr w0.heap.size w' g cap N n ad (ls.set i (lsub q (ls.getD i default) (ls.getD t default)))/\Ext w0 w'/\w.grownBy w' (some gx):=by
 have li:=h.dim.getD (i:=i) (by rw [h.len];exact hi);have lt:=h.dim.getD (i:=t) (by rw [h.len];exact ht);obtain ⟨gx',cx',a1,a2,a3,a4,a5⟩:=h.grl.at h.rect hn (i:=i) (by rw [Kj,h.len];exact hi);obtain ⟨gt',ct',b1,b2,b3,b4,b5⟩:=h.grl.at h.rect hn (i:=t) (by rw [Kj,h.len];exact ht);rw [hai] at a1;rw [hat] at b1;injection a1 with a1
 injection b1 with b1
 injection a1 with e1 e2
 injection b1 with e3 e4
 subst e1 e2 e3 e4;rw [Qs] at a3 b3;have hk:=KaD (w0:=w0) (w:=w) (ga:=gx) (ca:=cx) (k:=q) (cb:=ct) a3 b3.sl (Ne.symm (h.ne hn hi ht hne hai hat)) (by rw [lt.1,li.1]) (by rw [li.1];exact hn2) (J0 hA.1 hB.1 hq hE) hL hE0;rw [li.1] at hk;refine hk.mono ?_;rintro e w' ⟨rfl,hO,hG⟩;exact ⟨rfl,h.wrote hn hi hai (l:=lsub q (ls.getD i default) (ls.getD t default)) ⟨by show (QR q _ _).length=n;rw [KV];exact li.1,by show (QR q _ _).length=0;rw [KV];exact li.2⟩ hO hG,Kb hE0 hG a3.lt.1,hG⟩
theorem Kje {w0 w:World} {g cap N n i E gx cx:Nat} {ad:List (Nat×Nat)} {ls:List Ln} (h:Gr w0.heap.size w g cap N n ad ls) (hn:0<n) (hn2:n<=1000000) (hi:i<N)
  (hai:ad[i]? = some (gx,cx)) (hA:All (λz=>z.natAbs<2^E) (ls.getD i default)) (hE:2*E+2<LIM) (hE0:Ext w0 w) :
  Calls Tryz.prog 68 #[slv gx n cx] w λe w' =>
   e = .returned (.tuple #[])/\Gr w0.heap.size w' g cap N n ad (ls.set i (lneg (ls.getD i default)))/\Ext w0 w'/\w.grownBy w' (some gx):=by
 have li:=h.dim.getD (i:=i) (by rw [h.len];exact hi);obtain ⟨gx',cx',a1,a2,a3,a4,a5⟩:=h.grl.at h.rect hn (i:=i) (by rw [Kj,h.len];exact hi);rw [hai] at a1;injection a1 with a1
 injection a1 with e1 e2
 subst e1 e2;rw [Qs] at a3;refine (Kch (B:=w0.heap.size) (w:=w) a3 li.1 hn2 (λz hz=>by have:=Kv (hA.1 z hz);omega)).mono ?_;rintro e w' ⟨rfl,hO,hG⟩;exact ⟨rfl,h.wrote hn hi hai (l:=lneg (ls.getD i default)) ⟨by show (List.map _ _).length=n;rw [List.length_map];exact li.1,by show (List.map _ _).length=0;rw [List.length_map];exact li.2⟩ hO hG,Kb hE0 hG a3.lt.1,hG⟩
structure Lr (B:Nat) (w:World) (g cap N n:Nat) (ad:List (Nat×Nat)) (ls:List Ln):Prop where
 gr:LrX B w (slv g N cap) (KQ ls) ad
 len:ls.length=N
 dim:Dim n 0 ls
theorem Lr.ext {B:Nat} {w w':World} {g cap N n:Nat} {ad:List (Nat×Nat)} {ls:List Ln} (h:Lr B w g cap N n ad ls) (he:Ext w w'):Lr B w' g cap N n ad ls:=⟨h.gr.ext he,h.len,h.dim⟩
theorem Lr.rect {B:Nat} {w:World} {g cap N n:Nat} {ad:List (Nat×Nat)} {ls:List Ln} (h:Lr B w g cap N n ad ls):Ku n (KQ ls):=λr hr=>by
 obtain ⟨l,hl,rfl⟩:=List.mem_map.1 hr;exact (h.dim l hl).1
theorem Lr.grl {B:Nat} {w:World} {g cap N n:Nat} {ad:List (Nat×Nat)} {ls:List Ln} (h:Lr B w g cap N n ad ls):LrX B w (slv g (KQ ls).length cap) (KQ ls) ad:=by
 have:=h.gr;rwa [<-h.len,<-Kj] at this
theorem Lr.base {B:Nat} {w:World} {g cap N n:Nat} {ad:List (Nat×Nat)} {ls:List Ln} (h:Lr B w g cap N n ad ls):B<=g/\g<w.heap.size:=h.grl.outer.lt
theorem Lr.fz {B:Nat} {w:World} {g cap N n:Nat} {ad:List (Nat×Nat)} {ls:List Ln} (h:Lr B w g cap N n ad ls) (o:Nat):w.frozen? ⟨g,o,none⟩=false:=h.grl.outer.frozen o
theorem Lr.ln {B:Nat} {w:World} {g cap N n d i c:Nat} {ad:List (Nat×Nat)} {ls:List Ln} (h:Lr B w g cap N n ad ls) (hi:d+i<N) (hc:c<n) :
  ∃gx cx,ad[d+i]? = some (gx,cx)/\w.cell? ⟨g,d+i,none⟩=some (slv gx n cx)/\w.cell? ⟨gx,c,none⟩=some (I (cols c d ls i))/\Kd 45 B w gx cx (ss (ls.getD (d+i) default).1)/\gx≠g:=by
 obtain ⟨gx,cx,h1,h2,h3,h4,h5⟩:=h.grl.at h.rect (by omega) (i:=d+i) (by rw [Kj,h.len];exact hi);rw [Qs] at h3 h5;refine ⟨gx,cx,h1,h2,?_,h3,h4⟩;rw [h3.cell (j:=c) (by rw [Kx,h5];exact hc)];exact congrArg some (KhX (by rw [h5];exact hc) _)
theorem Lr.ne {B:Nat} {w:World} {g cap N n i t gx cx gt ct:Nat} {ad:List (Nat×Nat)} {ls:List Ln} (h:Lr B w g cap N n ad ls) (hn:0<n) (hi:i<N) (ht:t<N) (hne:i≠t) (hai:ad[i]? = some (gx,cx)) (hat:ad[t]? = some (gt,ct)):gx≠gt:=by
 obtain ⟨h1,e1⟩:=List.getElem?_eq_some_iff.1 hai;obtain ⟨h2,e2⟩:=List.getElem?_eq_some_iff.1 hat;have hl : ∀j (hj:j<(KQ ls).length),0<(KQ ls)[j].length:=λj hj=>by rw [h.rect _ (List.getElem_mem hj)];exact hn
 have hi':i<(KQ ls).length:=by rw [Kj,h.len];exact hi
 have ht':t<(KQ ls).length:=by rw [Kj,h.len];exact ht
 have:=h.gr.dis i t h1 h2 hi' ht' (hl i hi') (hl t ht') hne;rw [e1,e2] at this;exact this
theorem Lr.wrote {B:Nat} {w w':World} {g cap N n i gx cx:Nat} {ad:List (Nat×Nat)} {ls:List Ln} (h:Lr B w g cap N n ad ls) (hn:0<n) (hi:i<N) (hai:ad[i]? = some (gx,cx)) {l:Ln} (hl:l.1.length=n/\l.2.length=0)
  (hO:Kd 45 B w' gx cx (ss l.1)) (hG:w.grownBy w' (some gx)):Lr B w' g cap N n ad (ls.set i l):=by
 have hi':i<(KQ ls).length:=by rw [Kj,h.len];exact hi
 have h1:=h.grl.wrote hi' hai (r:=l.1) (by rw [Qs,hl.1,(h.dim.getD (by rw [h.len];exact hi)).1]) (by omega) hO (Chg.of_grown hG rfl);rw [<-KaB,Kj,h.len] at h1;exact ⟨h1,by rw [List.length_set];exact h.len,h.dim.set i hl⟩
theorem Lr.swap {B:Nat} {w:World} {g cap N n i j gi ci gj cj:Nat} {ad:List (Nat×Nat)} {ls:List Ln} (h:Lr B w g cap N n ad ls) (hn:0<n) (hi:i<N) (hj:j<N) (hai:ad[i]? = some (gi,ci)) (haj:ad[j]? = some (gj,cj)) :
  Lr B ((w.setCell ⟨g,i,none⟩ (slv gj n cj)).setCell ⟨g,j,none⟩ (slv gi n ci)) g cap N n (sw2 ad (0,0) i j) (swp ls i j)
   /\ w.grownBy ((w.setCell ⟨g,i,none⟩ (slv gj n cj)).setCell ⟨g,j,none⟩ (slv gi n ci)) (some g):=by
 have hi':i<(KQ ls).length:=by rw [Kj,h.len];exact hi
 have hj':j<(KQ ls).length:=by rw [Kj,h.len];exact hj
 obtain ⟨h1,h2,h3⟩:=h.grl.swapped h.rect hn hi' hj' hai haj;rw [<-KfC,Kj,h.len] at h1;refine ⟨⟨h1,by rw [Yp];exact h.len,?_⟩,h2⟩;unfold swp;exact (h.dim.set i (h.dim.getD (by rw [h.len];exact hj))).set j (h.dim.getD (by rw [h.len];exact hi))
theorem KdR {w0 w:World} {g cap N n i t E gx cx gt ct:Nat} {q:Int} {ad:List (Nat×Nat)} {ls:List Ln} (h:Lr w0.heap.size w g cap N n ad ls) (hn:0<n) (hn2:n<=1000000) (hi:i<N) (ht:t<N) (hne:i≠t)
  (hai:ad[i]? = some (gx,cx)) (hat:ad[t]? = some (gt,ct)) (hA:All (λz=>z.natAbs<2^E) (ls.getD i default)) (hB:All (λz=>z.natAbs<2^E) (ls.getD t default)) (hq:q.natAbs<2^E) (hE:2*E+2<LIM) (hL:Laid w0) (hE0:Ext w0 w) :
  Calls Tryz.prog 99 #[slv gx n cx,I q,slv gt n ct] w λe w' =>
   e = .returned (.tuple #[])/\Lr w0.heap.size w' g cap N n ad (ls.set i (lsub q (ls.getD i default) (ls.getD t default)))/\Ext w0 w'/\w.grownBy w' (some gx):=by
 have li:=h.dim.getD (i:=i) (by rw [h.len];exact hi);have lt:=h.dim.getD (i:=t) (by rw [h.len];exact ht);obtain ⟨gx',cx',a1,a2,a3,a4,a5⟩:=h.grl.at h.rect hn (i:=i) (by rw [Kj,h.len];exact hi);obtain ⟨gt',ct',b1,b2,b3,b4,b5⟩:=h.grl.at h.rect hn (i:=t) (by rw [Kj,h.len];exact ht);rw [hai] at a1;rw [hat] at b1;injection a1 with a1
 injection b1 with b1
 injection a1 with e1 e2
 injection b1 with e3 e4
 subst e1 e2 e3 e4;rw [Qs] at a3 b3;have hk:=Kk1 (w0:=w0) (w:=w) (ga:=gx) (ca:=cx) (k:=q) (cb:=ct) a3 b3.sl (Ne.symm (h.ne hn hi ht hne hai hat)) (by rw [lt.1,li.1]) (by rw [li.1];exact hn2) (J0 hA.1 hB.1 hq hE) hL hE0;rw [li.1] at hk;refine hk.mono ?_;rintro e w' ⟨rfl,hO,hG⟩;exact ⟨rfl,h.wrote hn hi hai (l:=lsub q (ls.getD i default) (ls.getD t default)) ⟨by show (QR q _ _).length=n;rw [KV];exact li.1,by show (QR q _ _).length=0;rw [KV];exact li.2⟩ hO hG,Kb hE0 hG a3.lt.1,hG⟩
theorem Kk7 {w0 w:World} {g cap N n i E gx cx:Nat} {ad:List (Nat×Nat)} {ls:List Ln} (h:Lr w0.heap.size w g cap N n ad ls) (hn:0<n) (hn2:n<=1000000) (hi:i<N)
  (hai:ad[i]? = some (gx,cx)) (hA:All (λz=>z.natAbs<2^E) (ls.getD i default)) (hE:2*E+2<LIM) (hE0:Ext w0 w) :
  Calls Tryz.prog 100 #[slv gx n cx] w λe w' =>
   e = .returned (.tuple #[])/\Lr w0.heap.size w' g cap N n ad (ls.set i (lneg (ls.getD i default)))/\Ext w0 w'/\w.grownBy w' (some gx):=by
 have li:=h.dim.getD (i:=i) (by rw [h.len];exact hi);obtain ⟨gx',cx',a1,a2,a3,a4,a5⟩:=h.grl.at h.rect hn (i:=i) (by rw [Kj,h.len];exact hi);rw [hai] at a1;injection a1 with a1
 injection a1 with e1 e2
 subst e1 e2;rw [Qs] at a3;refine (Km0 (B:=w0.heap.size) (w:=w) a3 li.1 hn2 (λz hz=>by have:=Kv (hA.1 z hz);omega)).mono ?_;rintro e w' ⟨rfl,hO,hG⟩;exact ⟨rfl,h.wrote hn hi hai (l:=lneg (ls.getD i default)) ⟨by show (List.map _ _).length=n;rw [List.length_map];exact li.1,by show (List.map _ _).length=0;rw [List.length_map];exact li.2⟩ hO hG,Kb hE0 hG a3.lt.1,hG⟩
theorem Lr.el {B:Nat} {w:World} {g cap N n i c:Nat} {ad:List (Nat×Nat)} {ls:List Ln} (h:Lr B w g cap N n ad ls) (hi:i<N) (hc:c<n) :
  ∃gx cx,ad[i]? = some (gx,cx)/\w.cell? ⟨g,i,none⟩=some (slv gx n cx)/\w.cell? ⟨gx,c,none⟩=some (I (en ls i c))/\Kd 45 B w gx cx (ss (ls.getD i default).1)/\gx≠g:=by
 obtain ⟨gx,cx,h1,h2,h3,h4,h5⟩:=h.ln (d:=i) (i:=0) (by omega) hc;exact ⟨gx,cx,h1,h2,h3,h4,h5⟩
end
end Go.Proofs.YtdmaofimeknkbaaGreatDoor
