/- Part 18 of the proof of the claim: contracts of the functions that it reaches, and plain laws; no condition. -/
import Derived.Test.YtmhfccigejcphaaGreatDoorQ12
import Derived.Test.YtmhfccigejcphaaGreatDoorQ15
import Derived.Test.YtmhfccigejcphaaGreatDoorQ16
import Derived.Test.YtmhfccigejcphaaGreatDoorQ10
set_option maxRecDepth 100000
set_option maxHeartbeats 20000000
namespace Go.Proofs.YtmhfccigejcphaaGreatDoor
section
open Go.RowKit Go.Sort
open Lib (hid)
theorem Kap {w0 w:World} {ga ca gb ob cb:Nat} {sb:Option Addr} {k:Int} {a b:List Int} (hO:Kd 82 w0.heap.size w ga ca (ss a)) (hB:Sl w sb gb ob (ss b)) (hne:gb≠ga)
  (hlen:b.length=a.length) (hl:a.length<=1000000)
  (hbig : ∀(i:Nat) (h:i<b.length) (h':i<a.length),nd a[i]<LIM/\nd (k*b[i])<LIM/\nd k+nd b[i]<=LIM) (hL:Laid w0) (hE0:Ext w0 w) :
  Calls Tryz.prog 216 #[slv ga a.length ca,.slice sb a.length cb,I k] w λe w'=>e = .returned (.tuple #[])/\Kd 82 w0.heap.size w' ga ca (ss (QL k a b))/\w.grownBy w' (some ga):=by
 have hkz:(Lib.itoa k==[48])=decide (k=0):=Ky k
 by_cases hk0:k=0
 ·rw [decide_eq_true hk0] at hkz;subst hk0;rw [Kb5 a b (by omega)];clear hbig hL hlen hl hB
  go_enter Tryz.func216,Tryz.ntmps216
  go_wp2_with fail;refine bodyPost_ret (results_none rfl _ _ _) rfl ?_;exact ⟨rfl,hO,World.grownBy.refl _ _⟩
 ·rw [decide_eq_false hk0] at hkz;have HL:=hid hL;have HB:=hid hB;have Hbig:=hid hbig;have Hlen:=hid hlen;clear hL hB hbig hk0 hlen
  go_enter Tryz.func216,Tryz.ntmps216
  go_wp2_with fail
  go_loopw [11] (λidx wr => ∃i:Nat,i<=a.length/\idx = .int .i64 i/\Kd 82 w0.heap.size wr ga ca (ss (QL k a (b.take i)))/\w.grownBy wr (some ga)) (λidx _=>a.length-(intOf idx).toNat)
  case atStart=>exact ⟨0,by omega,by go_num,by simpa [XE] using hO,World.grownBy.refl _ _⟩
  case round =>
   obtain ⟨i,hi,rfl,hOr,hG⟩:=hrel;have hga:=hO.lt.1
   by_cases hlt:i<a.length
   ·have hib:i<b.length:=by rw [Hlen.out];exact hlt
    obtain ⟨x,hx⟩ : ∃x,x=a[i]:=⟨_,rfl⟩
    obtain ⟨y,hy⟩ : ∃y,y=b[i]:=⟨_,rfl⟩
    obtain rfl:=HB.out.addr (by simpa using (by omega:0<b.length))
    have cb:wr.cell? ⟨gb,ob+i,none⟩=some (I y):=by
     refine Kx hG hne ?_;rw [hy];exact HB.out.cell i _ (by simp [ss,hib])
    have ca':wr.cell? ⟨ga,i,none⟩=some (I x):=by
     rw [hOr.cell (by simpa using hlt)];simp only [ss,List.getElem_map];rw [Kec k a _ i hlt (by rw [List.length_take];omega),hx]
    have fa:=hOr.frozen i;have hEr:Ext w0 wr:=Kb hE0 hG hga;have hstep:=Kb4 k a b i hib hlt;rw [<-hx,<-hy] at hstep;have Hstep:=hid hstep;obtain ⟨n1,n2,n3⟩:=Hbig.out i hib hlt;rw [<-hx] at n1;rw [<-hy] at n2 n3;have hii:(i:Int)<(a.length:Int):=by omega
    have hEr2:=hid hEr;have c1:=hid (KO (w:=wr) (λW h=>Zk (a:=k) (b:=y) (w:=W) n3 (HL.out.ext (hEr2.out.trans h))));have c2:=hid (KO (w:=wr) (λW h=>KaT (a:=x) (b:=k*y) (w:=W) n1 n2 (HL.out.ext (hEr2.out.trans h))));have k1:=cell_regrown ca';have k2:=cell_regrown cb;clear hx hy hstep n1 n2 n3 hO hEr hib;go_wp2_with fail;refine Kl 13 (by kernel_rfl) (by kernel_rfl) ?_;simp only [List.take_succ_cons,List.take_zero,List.drop_succ_cons,List.drop_zero]
    repeat (quiet_step (first | exact c1.out _ _ | exact c2.out _ _))
    refine wpQuiet_nil ?_;intro _ hw';obtain ⟨⟨dq,osq⟩,hw''⟩:=hw';subst hw'';have hE5:=Kj wr dq osq;have hO5:=hOr.ext hE5;have d5:=hE5.cell ca';clear c1 c2 k1 k2;generalize grow (redrawn wr dq) osq=w5 at *;have f5:=hO5.frozen i;obtain ⟨hO6,hG6⟩:=hO5.set i (I (x-k*y));rw [<-Xo,<-Hstep.out] at hO6;have hG5:=Kh hG (Kh (Xl hE5 (some ga)) hG6);clear hE5 hO5 hG6;go_wp2_with fail;go_roundw
    case rel=>exact ⟨i+1,by omega,by go_num,hO6,hG5⟩
    case measure=>simp [intOf]<;>omega
   ·go_wp2_with fail
    go_end0
    refine ⟨rfl,?_,hG⟩;rw [List.take_of_length_le (by rw [Hlen.out];omega)] at hOr;exact hOr
def KbS (o j:Nat) (l:List Int):List Int:=l.take o++Jy j (l.drop o)
@[simp] theorem KoY (o j:Nat) (l:List Int):(KbS o j l).length=l.length:=by simp [KbS];omega
theorem Ke9 (o:Nat) (l:List Int):KbS o 0 l=l:=by rw [KbS,Kiq,List.take_append_drop]
theorem Khf {o j n:Nat} {l:List Int} (hl:l.length=o+n) (h:j<n):(KbS o j l)[o+j]'(by simp;omega)=l[o+j]:=by
 unfold KbS;rw [List.getElem_append_right (by simp;omega)];have e:(List.take o l).length=o:=by simp;omega
 simp only [e,Nat.add_sub_cancel_left];rw [KkM (by simp;omega),List.getElem_drop]
theorem Ke8 {o j n:Nat} {l:List Int} (hl:l.length=o+n) (h:j<n):KbS o (j+1) l=(KbS o j l).set (o+j) (-l[o+j]):=by
 unfold KbS;have e:(List.take o l).length=o:=by simp;omega
 rw [List.set_append_right _ _ (by omega),e,Nat.add_sub_cancel_left,Kip (by simp;omega),List.getElem_drop]
theorem Khe {o n:Nat} {l:List Int} (hl:l.length=o+n):KbS o n l=l.take o++(l.drop o).map (λz => -z):=by
 unfold KbS;rw [show n=(l.drop o).length by simp;omega,KkL]
theorem Keb {B:Nat} {w:World} {gx cx o n cp:Nat} {a:List Int} (hX:Kd 82 B w gx cx (ss a)) (hn:a.length=o+n) (hl:n<=1000000) (hbig : ∀z∈a,nd z<=LIM) :
  Calls Tryz.prog 160 #[.slice (some ⟨gx,o,none⟩) n cp] w λe w'=>e = .returned (.tuple #[])/\Kd 82 B w' gx cx (ss (a.take o++(a.drop o).map λz => -z))/\w.grownBy w' (some gx):=by
 have Hb:=hid hbig;have Hn:=hid hn;clear hbig hn
 go_enter Tryz.func160,Tryz.ntmps160
 go_wp2_with fail
 go_loopw [5] (λjdx wi => ∃j:Nat,j<=n/\jdx = .int .i64 j/\Kd 82 B wi gx cx (ss (KbS o j a))/\w.grownBy wi (some gx)) (λjdx _=>n-(intOf jdx).toNat)
 case atStart=>exact ⟨0,by omega,by go_num,by rw [Ke9];exact hX,World.grownBy.refl _ _⟩
 case round =>
  obtain ⟨j,hj,rfl,hOj,hG⟩:=hrel
  by_cases hlt:j<n
  ·have hjl:o+j<a.length:=by rw [Hn.out];omega
   obtain ⟨x,hx⟩ : ∃x,x=a[o+j]:=⟨_,rfl⟩
   have cj:wr.cell? ⟨gx,o+j,none⟩=some (I x):=by
    rw [hOj.cell (by simpa using hjl)];simp only [ss,List.getElem_map];rw [Khf Hn.out hlt,hx]
   have hneg:=hid (J5 (z:=x) (Hb.out x (by rw [hx];exact List.getElem_mem hjl)));have Hst:=hid (Ke8 Hn.out hlt);rw [<-hx] at Hst;have hjj:(j:Int)<(n:Int):=by omega
   clear hx hX hjl;go_wp2_with fail;refine (hneg.out _).mono ?_;rintro e w5 ⟨rfl,hE5⟩;have f5:=(hOj.ext hE5).frozen (o+j);have d5:=hE5.cell cj;obtain ⟨hO6,hG6⟩:=(hOj.ext hE5).set (o+j) (I (-x));rw [<-Xo,<-Hst.out] at hO6;have hG7:=Kh hG (Kh (Xl hE5 (some gx)) hG6);clear hE5 hOj hG6 hG;go_wp2_with fail;go_roundw
   case rel=>exact ⟨j+1,by omega,by go_num,hO6,hG7⟩
   case measure=>simp [intOf]<;>omega
  ·have hje:j=n:=by omega
   subst hje;rw [Khe Hn.out] at hOj;go_wp2_with fail
   go_end0
   exact ⟨rfl,hOj,hG⟩
theorem Kb3 {B:Nat} {w:World} {gx cx n:Nat} {a:List Int} (hX:Kd 82 B w gx cx (ss a)) (hn:a.length=n) (hl:n<=1000000) (hbig : ∀z∈a,nd z<=LIM) :
  Calls Tryz.prog 160 #[slv gx n cx] w λe w'=>e = .returned (.tuple #[])/\Kd 82 B w' gx cx (ss (a.map λz => -z))/\w.grownBy w' (some gx):=by
 have:=Keb (o:=0) (cp:=cx) hX (by omega) hl hbig;simpa using this
theorem KkI {w0 w:World} {ga ca gb ob cb:Nat} {sb:Option Addr} {k:Int} {a b:List Int} (hO:Kd 82 w0.heap.size w ga ca (ss a)) (hB:Sl w sb gb ob (ss b)) (hne:gb≠ga)
  (hlen:b.length=a.length) (hl:a.length<=1000000)
  (hbig : ∀(i:Nat) (h:i<b.length) (h':i<a.length),nd a[i]<LIM/\nd (k*b[i])<LIM/\nd k+nd b[i]<=LIM) (hL:Laid w0) (hE0:Ext w0 w) :
  Calls Tryz.prog 219 #[slv ga a.length ca,I k,.slice sb a.length cb] w λe w'=>e = .returned (.tuple #[])/\Kd 82 w0.heap.size w' ga ca (ss (QL k a b))/\w.grownBy w' (some ga):=by
 have hkz:(Lib.itoa k==[48])=decide (k=0):=Ky k
 by_cases hk0:k=0
 ·rw [decide_eq_true hk0] at hkz;subst hk0;rw [Kb5 a b (by omega)];clear hbig hL hlen hl hB
  go_enter Tryz.func219,Tryz.ntmps219
  go_wp2_with fail;refine bodyPost_ret (results_none rfl _ _ _) rfl ?_;exact ⟨rfl,hO,World.grownBy.refl _ _⟩
 ·rw [decide_eq_false hk0] at hkz;have HL:=hid hL;have HB:=hid hB;have Hbig:=hid hbig;have Hlen:=hid hlen;clear hL hB hbig hk0 hlen
  go_enter Tryz.func219,Tryz.ntmps219
  go_wp2_with fail
  go_loopw [12] (λidx wr => ∃i:Nat,i<=a.length/\idx = .int .i64 i/\Kd 82 w0.heap.size wr ga ca (ss (QL k a (b.take i)))/\w.grownBy wr (some ga)) (λidx _=>a.length-(intOf idx).toNat)
  case atStart=>exact ⟨0,by omega,by go_num,by simpa [XE] using hO,World.grownBy.refl _ _⟩
  case round =>
   obtain ⟨i,hi,rfl,hOr,hG⟩:=hrel;have hga:=hO.lt.1
   by_cases hlt:i<a.length
   ·have hib:i<b.length:=by rw [Hlen.out];exact hlt
    obtain ⟨x,hx⟩ : ∃x,x=a[i]:=⟨_,rfl⟩
    obtain ⟨y,hy⟩ : ∃y,y=b[i]:=⟨_,rfl⟩
    obtain rfl:=HB.out.addr (by simpa using (by omega:0<b.length))
    have cb:wr.cell? ⟨gb,ob+i,none⟩=some (I y):=by
     refine Kx hG hne ?_;rw [hy];exact HB.out.cell i _ (by simp [ss,hib])
    have ca':wr.cell? ⟨ga,i,none⟩=some (I x):=by
     rw [hOr.cell (by simpa using hlt)];simp only [ss,List.getElem_map];rw [Kec k a _ i hlt (by rw [List.length_take];omega),hx]
    have fa:=hOr.frozen i;have hEr:Ext w0 wr:=Kb hE0 hG hga;have hstep:=Kb4 k a b i hib hlt;rw [<-hx,<-hy] at hstep;have Hstep:=hid hstep;obtain ⟨n1,n2,n3⟩:=Hbig.out i hib hlt;rw [<-hx] at n1;rw [<-hy] at n2 n3;have hii:(i:Int)<(a.length:Int):=by omega
    have hEr2:=hid hEr;have c1:=hid (KO (w:=wr) (λW h=>Zk (a:=k) (b:=y) (w:=W) n3 (HL.out.ext (hEr2.out.trans h))));have c2:=hid (KO (w:=wr) (λW h=>KaT (a:=x) (b:=k*y) (w:=W) n1 n2 (HL.out.ext (hEr2.out.trans h))));have k1:=cell_regrown ca';have k2:=cell_regrown cb;clear hx hy hstep n1 n2 n3 hO hEr hib;go_wp2_with fail;refine Kl 10 (by kernel_rfl) (by kernel_rfl) ?_;simp only [List.take_succ_cons,List.take_zero,List.drop_succ_cons,List.drop_zero]
    repeat (quiet_step (first | exact c1.out _ _ | exact c2.out _ _))
    refine wpQuiet_nil ?_;intro _ hw';obtain ⟨⟨dq,osq⟩,hw''⟩:=hw';subst hw'';have hE5:=Kj wr dq osq;have hO5:=hOr.ext hE5;have d5:=hE5.cell ca';clear c1 c2 k1 k2;generalize grow (redrawn wr dq) osq=w5 at *;have f5:=hO5.frozen i;obtain ⟨hO6,hG6⟩:=hO5.set i (I (x-k*y));rw [<-Xo,<-Hstep.out] at hO6;have hG5:=Kh hG (Kh (Xl hE5 (some ga)) hG6);clear hE5 hO5 hG6;go_wp2_with fail;go_roundw
    case rel=>exact ⟨i+1,by omega,by go_num,hO6,hG5⟩
    case measure=>simp [intOf]<;>omega
   ·go_wp2_with fail
    go_end0
    refine ⟨rfl,?_,hG⟩;rw [List.take_of_length_le (by rw [Hlen.out];omega)] at hOr;exact hOr
theorem KkJ {B:Nat} {w:World} {gx cx o n cp:Nat} {a:List Int} (hX:Kd 82 B w gx cx (ss a)) (hn:a.length=o+n) (hl:n<=1000000) (hbig : ∀z∈a,nd z<=LIM) :
  Calls Tryz.prog 220 #[.slice (some ⟨gx,o,none⟩) n cp] w λe w'=>e = .returned (.tuple #[])/\Kd 82 B w' gx cx (ss (a.take o++(a.drop o).map λz => -z))/\w.grownBy w' (some gx):=by
 have Hb:=hid hbig;have Hn:=hid hn;clear hbig hn
 go_enter Tryz.func220,Tryz.ntmps220
 go_wp2_with fail
 go_loopw [6] (λjdx wi => ∃j:Nat,j<=n/\jdx = .int .i64 j/\Kd 82 B wi gx cx (ss (KbS o j a))/\w.grownBy wi (some gx)) (λjdx _=>n-(intOf jdx).toNat)
 case atStart=>exact ⟨0,by omega,by go_num,by rw [Ke9];exact hX,World.grownBy.refl _ _⟩
 case round =>
  obtain ⟨j,hj,rfl,hOj,hG⟩:=hrel
  by_cases hlt:j<n
  ·have hjl:o+j<a.length:=by rw [Hn.out];omega
   obtain ⟨x,hx⟩ : ∃x,x=a[o+j]:=⟨_,rfl⟩
   have cj:wr.cell? ⟨gx,o+j,none⟩=some (I x):=by
    rw [hOj.cell (by simpa using hjl)];simp only [ss,List.getElem_map];rw [Khf Hn.out hlt,hx]
   have hneg:=hid (J5 (z:=x) (Hb.out x (by rw [hx];exact List.getElem_mem hjl)));have Hst:=hid (Ke8 Hn.out hlt);rw [<-hx] at Hst;have hjj:(j:Int)<(n:Int):=by omega
   clear hx hX hjl;go_wp2_with fail;refine (hneg.out _).mono ?_;rintro e w5 ⟨rfl,hE5⟩;have f5:=(hOj.ext hE5).frozen (o+j);have d5:=hE5.cell cj;obtain ⟨hO6,hG6⟩:=(hOj.ext hE5).set (o+j) (I (-x));rw [<-Xo,<-Hst.out] at hO6;have hG7:=Kh hG (Kh (Xl hE5 (some gx)) hG6);clear hE5 hOj hG6 hG;go_wp2_with fail;go_roundw
   case rel=>exact ⟨j+1,by omega,by go_num,hO6,hG7⟩
   case measure=>simp [intOf]<;>omega
  ·have hje:j=n:=by omega
   subst hje;rw [Khe Hn.out] at hOj;go_wp2_with fail
   go_end0
   exact ⟨rfl,hOj,hG⟩
theorem KmB {B:Nat} {w:World} {gx cx n:Nat} {a:List Int} (hX:Kd 82 B w gx cx (ss a)) (hn:a.length=n) (hl:n<=1000000) (hbig : ∀z∈a,nd z<=LIM) :
  Calls Tryz.prog 220 #[slv gx n cx] w λe w'=>e = .returned (.tuple #[])/\Kd 82 B w' gx cx (ss (a.map λz => -z))/\w.grownBy w' (some gx):=by
 have:=KkJ (o:=0) (cp:=cx) hX (by omega) hl hbig;simpa using this
def KN (ls:List Ln):Mx:=ls.map (·.1)
@[simp] theorem Kk (ls:List Ln):(KN ls).length=ls.length:=by simp [KN]
theorem Qs (ls:List Ln) (i:Nat):(KN ls).getD i []=(ls.getD i default).1:=by
 unfold KN;simp only [List.getD_eq_getElem?_getD,List.getElem?_map]
 cases ls[i]?<;>rfl
theorem Kan (ls:List Ln) (i:Nat) (l:Ln):KN (ls.set i l)=(KN ls).set i l.1:=by simp [KN,List.map_set]
theorem Kfl (ls:List Ln) (i j:Nat):KN (swp ls i j)=sw2 (KN ls) [] i j:=by
 unfold swp sw2;rw [Kan,Kan,Qs,Qs]
theorem KbZ (M:Mx):KN (ln1 M)=M:=by simp [KN,ln1,Function.comp_def]
structure Gr (B:Nat) (w:World) (g cap N n:Nat) (ad:List (Nat×Nat)) (ls:List Ln):Prop where
 gr:GrX B w (slv g N cap) (KN ls) ad
 len:ls.length=N
 dim:Dim n 0 ls
theorem Gr.ext {B:Nat} {w w':World} {g cap N n:Nat} {ad:List (Nat×Nat)} {ls:List Ln} (h:Gr B w g cap N n ad ls) (he:Ext w w'):Gr B w' g cap N n ad ls:=⟨h.gr.ext he,h.len,h.dim⟩
theorem Gr.rect {B:Nat} {w:World} {g cap N n:Nat} {ad:List (Nat×Nat)} {ls:List Ln} (h:Gr B w g cap N n ad ls):Ks n (KN ls):=λr hr=>by
 obtain ⟨l,hl,rfl⟩:=List.mem_map.1 hr;exact (h.dim l hl).1
theorem Gr.grl {B:Nat} {w:World} {g cap N n:Nat} {ad:List (Nat×Nat)} {ls:List Ln} (h:Gr B w g cap N n ad ls):GrX B w (slv g (KN ls).length cap) (KN ls) ad:=by
 have:=h.gr;rwa [<-h.len,<-Kk] at this
theorem Gr.base {B:Nat} {w:World} {g cap N n:Nat} {ad:List (Nat×Nat)} {ls:List Ln} (h:Gr B w g cap N n ad ls):B<=g/\g<w.heap.size:=h.grl.outer.lt
theorem Gr.fz {B:Nat} {w:World} {g cap N n:Nat} {ad:List (Nat×Nat)} {ls:List Ln} (h:Gr B w g cap N n ad ls) (o:Nat):w.frozen? ⟨g,o,none⟩=false:=h.grl.outer.frozen o
theorem KhA {r:List Int} {c:Nat} (h:c<r.length) (h':c<(ss r).length):(ss r)[c]=I (r.getD c 0):=by rw [Ka h];simp [ss]
theorem Gr.ln {B:Nat} {w:World} {g cap N n d i c:Nat} {ad:List (Nat×Nat)} {ls:List Ln} (h:Gr B w g cap N n ad ls) (hi:d+i<N) (hc:c<n) :
  ∃gx cx,ad[d+i]? = some (gx,cx)/\w.cell? ⟨g,d+i,none⟩=some (slv gx n cx)/\w.cell? ⟨gx,c,none⟩=some (I (cols c d ls i))/\Kd 82 B w gx cx (ss (ls.getD (d+i) default).1)/\gx≠g:=by
 obtain ⟨gx,cx,h1,h2,h3,h4,h5⟩:=h.grl.at h.rect (by omega) (i:=d+i) (by rw [Kk,h.len];exact hi);rw [Qs] at h3 h5;refine ⟨gx,cx,h1,h2,?_,h3,h4⟩;rw [h3.cell (j:=c) (by rw [Kw,h5];exact hc)];exact congrArg some (KhA (by rw [h5];exact hc) _)
theorem Gr.ne {B:Nat} {w:World} {g cap N n i t gx cx gt ct:Nat} {ad:List (Nat×Nat)} {ls:List Ln} (h:Gr B w g cap N n ad ls) (hn:0<n) (hi:i<N) (ht:t<N) (hne:i≠t) (hai:ad[i]? = some (gx,cx)) (hat:ad[t]? = some (gt,ct)):gx≠gt:=by
 obtain ⟨h1,e1⟩:=List.getElem?_eq_some_iff.1 hai;obtain ⟨h2,e2⟩:=List.getElem?_eq_some_iff.1 hat;have hl : ∀j (hj:j<(KN ls).length),0<(KN ls)[j].length:=λj hj=>by rw [h.rect _ (List.getElem_mem hj)];exact hn
 have hi':i<(KN ls).length:=by rw [Kk,h.len];exact hi
 have ht':t<(KN ls).length:=by rw [Kk,h.len];exact ht
 have:=h.gr.dis i t h1 h2 hi' ht' (hl i hi') (hl t ht') hne;rw [e1,e2] at this;exact this
theorem Gr.wrote {B:Nat} {w w':World} {g cap N n i gx cx:Nat} {ad:List (Nat×Nat)} {ls:List Ln} (h:Gr B w g cap N n ad ls) (hn:0<n) (hi:i<N) (hai:ad[i]? = some (gx,cx)) {l:Ln} (hl:l.1.length=n/\l.2.length=0)
  (hO:Kd 82 B w' gx cx (ss l.1)) (hG:w.grownBy w' (some gx)):Gr B w' g cap N n ad (ls.set i l):=by
 have hi':i<(KN ls).length:=by rw [Kk,h.len];exact hi
 have h1:=h.grl.wrote hi' hai (r:=l.1) (by rw [Qs,hl.1,(h.dim.getD (by rw [h.len];exact hi)).1]) (by omega) hO (Chg.of_grown hG rfl);rw [<-Kan,Kk,h.len] at h1;exact ⟨h1,by rw [List.length_set];exact h.len,h.dim.set i hl⟩
theorem Gr.swap {B:Nat} {w:World} {g cap N n i j gi ci gj cj:Nat} {ad:List (Nat×Nat)} {ls:List Ln} (h:Gr B w g cap N n ad ls) (hn:0<n) (hi:i<N) (hj:j<N) (hai:ad[i]? = some (gi,ci)) (haj:ad[j]? = some (gj,cj)) :
  Gr B ((w.setCell ⟨g,i,none⟩ (slv gj n cj)).setCell ⟨g,j,none⟩ (slv gi n ci)) g cap N n (sw2 ad (0,0) i j) (swp ls i j)
   /\ w.grownBy ((w.setCell ⟨g,i,none⟩ (slv gj n cj)).setCell ⟨g,j,none⟩ (slv gi n ci)) (some g):=by
 have hi':i<(KN ls).length:=by rw [Kk,h.len];exact hi
 have hj':j<(KN ls).length:=by rw [Kk,h.len];exact hj
 obtain ⟨h1,h2,h3⟩:=h.grl.swapped h.rect hn hi' hj' hai haj;rw [<-Kfl,Kk,h.len] at h1;refine ⟨⟨h1,by rw [Yo];exact h.len,?_⟩,h2⟩;unfold swp;exact (h.dim.set i (h.dim.getD (by rw [h.len];exact hj))).set j (h.dim.getD (by rw [h.len];exact hi))
theorem Kej {w0 w:World} {g cap N n i t E gx cx gt ct:Nat} {q:Int} {ad:List (Nat×Nat)} {ls:List Ln} (h:Gr w0.heap.size w g cap N n ad ls) (hn:0<n) (hn2:n<=1000000) (hi:i<N) (ht:t<N) (hne:i≠t)
  (hai:ad[i]? = some (gx,cx)) (hat:ad[t]? = some (gt,ct)) (hA:All (λz=>z.natAbs<2^E) (ls.getD i default)) (hB:All (λz=>z.natAbs<2^E) (ls.getD t default)) (hq:q.natAbs<2^E) (hE:2*E+2<LIM) (hL:Laid w0) (hE0:Ext w0 w) :
  Calls Tryz.prog 216 #[slv gx n cx,slv gt n ct,I q] w λe w' =>
   e = .returned (.tuple #[])/\Gr w0.heap.size w' g cap N n ad (ls.set i (lsub q (ls.getD i default) (ls.getD t default)))/\Ext w0 w'/\w.grownBy w' (some gx):=by
 have li:=h.dim.getD (i:=i) (by rw [h.len];exact hi);have lt:=h.dim.getD (i:=t) (by rw [h.len];exact ht);obtain ⟨gx',cx',a1,a2,a3,a4,a5⟩:=h.grl.at h.rect hn (i:=i) (by rw [Kk,h.len];exact hi);obtain ⟨gt',ct',b1,b2,b3,b4,b5⟩:=h.grl.at h.rect hn (i:=t) (by rw [Kk,h.len];exact ht);rw [hai] at a1;rw [hat] at b1;injection a1 with a1
 injection b1 with b1
 injection a1 with e1 e2
 injection b1 with e3 e4
 subst e1 e2 e3 e4;rw [Qs] at a3 b3;have hk:=Kap (w0:=w0) (w:=w) (ga:=gx) (ca:=cx) (k:=q) (cb:=ct) a3 b3.sl (Ne.symm (h.ne hn hi ht hne hai hat)) (by rw [lt.1,li.1]) (by rw [li.1];exact hn2) (JO hA.1 hB.1 hq hE) hL hE0;rw [li.1] at hk;refine hk.mono ?_;rintro e w' ⟨rfl,hO,hG⟩;exact ⟨rfl,h.wrote hn hi hai (l:=lsub q (ls.getD i default) (ls.getD t default)) ⟨by show (QL q _ _).length=n;rw [KR];exact li.1,by show (QL q _ _).length=0;rw [KR];exact li.2⟩ hO hG,Kb hE0 hG a3.lt.1,hG⟩
theorem KiQ {w0 w:World} {g cap N n i E gx cx:Nat} {ad:List (Nat×Nat)} {ls:List Ln} (h:Gr w0.heap.size w g cap N n ad ls) (hn:0<n) (hn2:n<=1000000) (hi:i<N)
  (hai:ad[i]? = some (gx,cx)) (hA:All (λz=>z.natAbs<2^E) (ls.getD i default)) (hE:2*E+2<LIM) (hE0:Ext w0 w) :
  Calls Tryz.prog 160 #[slv gx n cx] w λe w' =>
   e = .returned (.tuple #[])/\Gr w0.heap.size w' g cap N n ad (ls.set i (lneg (ls.getD i default)))/\Ext w0 w'/\w.grownBy w' (some gx):=by
 have li:=h.dim.getD (i:=i) (by rw [h.len];exact hi);obtain ⟨gx',cx',a1,a2,a3,a4,a5⟩:=h.grl.at h.rect hn (i:=i) (by rw [Kk,h.len];exact hi);rw [hai] at a1;injection a1 with a1
 injection a1 with e1 e2
 subst e1 e2;rw [Qs] at a3;refine (Kb3 (B:=w0.heap.size) (w:=w) a3 li.1 hn2 (λz hz=>by have:=Ku (hA.1 z hz);omega)).mono ?_;rintro e w' ⟨rfl,hO,hG⟩;exact ⟨rfl,h.wrote hn hi hai (l:=lneg (ls.getD i default)) ⟨by show (List.map _ _).length=n;rw [List.length_map];exact li.1,by show (List.map _ _).length=0;rw [List.length_map];exact li.2⟩ hO hG,Kb hE0 hG a3.lt.1,hG⟩
structure Lr (B:Nat) (w:World) (g cap N n:Nat) (ad:List (Nat×Nat)) (ls:List Ln):Prop where
 gr:LrX B w (slv g N cap) (KN ls) ad
 len:ls.length=N
 dim:Dim n 0 ls
theorem Lr.ext {B:Nat} {w w':World} {g cap N n:Nat} {ad:List (Nat×Nat)} {ls:List Ln} (h:Lr B w g cap N n ad ls) (he:Ext w w'):Lr B w' g cap N n ad ls:=⟨h.gr.ext he,h.len,h.dim⟩
theorem Lr.rect {B:Nat} {w:World} {g cap N n:Nat} {ad:List (Nat×Nat)} {ls:List Ln} (h:Lr B w g cap N n ad ls):Ks n (KN ls):=λr hr=>by
 obtain ⟨l,hl,rfl⟩:=List.mem_map.1 hr;exact (h.dim l hl).1
theorem Lr.grl {B:Nat} {w:World} {g cap N n:Nat} {ad:List (Nat×Nat)} {ls:List Ln} (h:Lr B w g cap N n ad ls):LrX B w (slv g (KN ls).length cap) (KN ls) ad:=by
 have:=h.gr;rwa [<-h.len,<-Kk] at this
theorem Lr.base {B:Nat} {w:World} {g cap N n:Nat} {ad:List (Nat×Nat)} {ls:List Ln} (h:Lr B w g cap N n ad ls):B<=g/\g<w.heap.size:=h.grl.outer.lt
theorem Lr.fz {B:Nat} {w:World} {g cap N n:Nat} {ad:List (Nat×Nat)} {ls:List Ln} (h:Lr B w g cap N n ad ls) (o:Nat):w.frozen? ⟨g,o,none⟩=false:=h.grl.outer.frozen o
theorem Lr.ln {B:Nat} {w:World} {g cap N n d i c:Nat} {ad:List (Nat×Nat)} {ls:List Ln} (h:Lr B w g cap N n ad ls) (hi:d+i<N) (hc:c<n) :
  ∃gx cx,ad[d+i]? = some (gx,cx)/\w.cell? ⟨g,d+i,none⟩=some (slv gx n cx)/\w.cell? ⟨gx,c,none⟩=some (I (cols c d ls i))/\Kd 82 B w gx cx (ss (ls.getD (d+i) default).1)/\gx≠g:=by
 obtain ⟨gx,cx,h1,h2,h3,h4,h5⟩:=h.grl.at h.rect (by omega) (i:=d+i) (by rw [Kk,h.len];exact hi);rw [Qs] at h3 h5;refine ⟨gx,cx,h1,h2,?_,h3,h4⟩;rw [h3.cell (j:=c) (by rw [Kw,h5];exact hc)];exact congrArg some (KhA (by rw [h5];exact hc) _)
theorem Lr.ne {B:Nat} {w:World} {g cap N n i t gx cx gt ct:Nat} {ad:List (Nat×Nat)} {ls:List Ln} (h:Lr B w g cap N n ad ls) (hn:0<n) (hi:i<N) (ht:t<N) (hne:i≠t) (hai:ad[i]? = some (gx,cx)) (hat:ad[t]? = some (gt,ct)):gx≠gt:=by
 obtain ⟨h1,e1⟩:=List.getElem?_eq_some_iff.1 hai;obtain ⟨h2,e2⟩:=List.getElem?_eq_some_iff.1 hat;have hl : ∀j (hj:j<(KN ls).length),0<(KN ls)[j].length:=λj hj=>by rw [h.rect _ (List.getElem_mem hj)];exact hn
 have hi':i<(KN ls).length:=by rw [Kk,h.len];exact hi
 have ht':t<(KN ls).length:=by rw [Kk,h.len];exact ht
 have:=h.gr.dis i t h1 h2 hi' ht' (hl i hi') (hl t ht') hne;rw [e1,e2] at this;exact this
theorem Lr.wrote {B:Nat} {w w':World} {g cap N n i gx cx:Nat} {ad:List (Nat×Nat)} {ls:List Ln} (h:Lr B w g cap N n ad ls) (hn:0<n) (hi:i<N) (hai:ad[i]? = some (gx,cx)) {l:Ln} (hl:l.1.length=n/\l.2.length=0)
  (hO:Kd 82 B w' gx cx (ss l.1)) (hG:w.grownBy w' (some gx)):Lr B w' g cap N n ad (ls.set i l):=by
 have hi':i<(KN ls).length:=by rw [Kk,h.len];exact hi
 have h1:=h.grl.wrote hi' hai (r:=l.1) (by rw [Qs,hl.1,(h.dim.getD (by rw [h.len];exact hi)).1]) (by omega) hO (Chg.of_grown hG rfl);rw [<-Kan,Kk,h.len] at h1;exact ⟨h1,by rw [List.length_set];exact h.len,h.dim.set i hl⟩
theorem Lr.swap {B:Nat} {w:World} {g cap N n i j gi ci gj cj:Nat} {ad:List (Nat×Nat)} {ls:List Ln} (h:Lr B w g cap N n ad ls) (hn:0<n) (hi:i<N) (hj:j<N) (hai:ad[i]? = some (gi,ci)) (haj:ad[j]? = some (gj,cj)) :
  Lr B ((w.setCell ⟨g,i,none⟩ (slv gj n cj)).setCell ⟨g,j,none⟩ (slv gi n ci)) g cap N n (sw2 ad (0,0) i j) (swp ls i j)
   /\ w.grownBy ((w.setCell ⟨g,i,none⟩ (slv gj n cj)).setCell ⟨g,j,none⟩ (slv gi n ci)) (some g):=by
 have hi':i<(KN ls).length:=by rw [Kk,h.len];exact hi
 have hj':j<(KN ls).length:=by rw [Kk,h.len];exact hj
 obtain ⟨h1,h2,h3⟩:=h.grl.swapped h.rect hn hi' hj' hai haj;rw [<-Kfl,Kk,h.len] at h1;refine ⟨⟨h1,by rw [Yo];exact h.len,?_⟩,h2⟩;unfold swp;exact (h.dim.set i (h.dim.getD (by rw [h.len];exact hj))).set j (h.dim.getD (by rw [h.len];exact hi))
theorem KdD {w0 w:World} {g cap N n i t E gx cx gt ct:Nat} {q:Int} {ad:List (Nat×Nat)} {ls:List Ln} (h:Lr w0.heap.size w g cap N n ad ls) (hn:0<n) (hn2:n<=1000000) (hi:i<N) (ht:t<N) (hne:i≠t)
  (hai:ad[i]? = some (gx,cx)) (hat:ad[t]? = some (gt,ct)) (hA:All (λz=>z.natAbs<2^E) (ls.getD i default)) (hB:All (λz=>z.natAbs<2^E) (ls.getD t default)) (hq:q.natAbs<2^E) (hE:2*E+2<LIM) (hL:Laid w0) (hE0:Ext w0 w) :
  Calls Tryz.prog 219 #[slv gx n cx,I q,slv gt n ct] w λe w' =>
   e = .returned (.tuple #[])/\Lr w0.heap.size w' g cap N n ad (ls.set i (lsub q (ls.getD i default) (ls.getD t default)))/\Ext w0 w'/\w.grownBy w' (some gx):=by
 have li:=h.dim.getD (i:=i) (by rw [h.len];exact hi);have lt:=h.dim.getD (i:=t) (by rw [h.len];exact ht);obtain ⟨gx',cx',a1,a2,a3,a4,a5⟩:=h.grl.at h.rect hn (i:=i) (by rw [Kk,h.len];exact hi);obtain ⟨gt',ct',b1,b2,b3,b4,b5⟩:=h.grl.at h.rect hn (i:=t) (by rw [Kk,h.len];exact ht);rw [hai] at a1;rw [hat] at b1;injection a1 with a1
 injection b1 with b1
 injection a1 with e1 e2
 injection b1 with e3 e4
 subst e1 e2 e3 e4;rw [Qs] at a3 b3;have hk:=KkI (w0:=w0) (w:=w) (ga:=gx) (ca:=cx) (k:=q) (cb:=ct) a3 b3.sl (Ne.symm (h.ne hn hi ht hne hai hat)) (by rw [lt.1,li.1]) (by rw [li.1];exact hn2) (JO hA.1 hB.1 hq hE) hL hE0;rw [li.1] at hk;refine hk.mono ?_;rintro e w' ⟨rfl,hO,hG⟩;exact ⟨rfl,h.wrote hn hi hai (l:=lsub q (ls.getD i default) (ls.getD t default)) ⟨by show (QL q _ _).length=n;rw [KR];exact li.1,by show (QL q _ _).length=0;rw [KR];exact li.2⟩ hO hG,Kb hE0 hG a3.lt.1,hG⟩
theorem KkN {w0 w:World} {g cap N n i E gx cx:Nat} {ad:List (Nat×Nat)} {ls:List Ln} (h:Lr w0.heap.size w g cap N n ad ls) (hn:0<n) (hn2:n<=1000000) (hi:i<N)
  (hai:ad[i]? = some (gx,cx)) (hA:All (λz=>z.natAbs<2^E) (ls.getD i default)) (hE:2*E+2<LIM) (hE0:Ext w0 w) :
  Calls Tryz.prog 220 #[slv gx n cx] w λe w' =>
   e = .returned (.tuple #[])/\Lr w0.heap.size w' g cap N n ad (ls.set i (lneg (ls.getD i default)))/\Ext w0 w'/\w.grownBy w' (some gx):=by
 have li:=h.dim.getD (i:=i) (by rw [h.len];exact hi);obtain ⟨gx',cx',a1,a2,a3,a4,a5⟩:=h.grl.at h.rect hn (i:=i) (by rw [Kk,h.len];exact hi);rw [hai] at a1;injection a1 with a1
 injection a1 with e1 e2
 subst e1 e2;rw [Qs] at a3;refine (KmB (B:=w0.heap.size) (w:=w) a3 li.1 hn2 (λz hz=>by have:=Ku (hA.1 z hz);omega)).mono ?_;rintro e w' ⟨rfl,hO,hG⟩;exact ⟨rfl,h.wrote hn hi hai (l:=lneg (ls.getD i default)) ⟨by show (List.map _ _).length=n;rw [List.length_map];exact li.1,by show (List.map _ _).length=0;rw [List.length_map];exact li.2⟩ hO hG,Kb hE0 hG a3.lt.1,hG⟩
theorem Lr.el {B:Nat} {w:World} {g cap N n i c:Nat} {ad:List (Nat×Nat)} {ls:List Ln} (h:Lr B w g cap N n ad ls) (hi:i<N) (hc:c<n) :
  ∃gx cx,ad[i]? = some (gx,cx)/\w.cell? ⟨g,i,none⟩=some (slv gx n cx)/\w.cell? ⟨gx,c,none⟩=some (I (en ls i c))/\Kd 82 B w gx cx (ss (ls.getD i default).1)/\gx≠g:=by
 obtain ⟨gx,cx,h1,h2,h3,h4,h5⟩:=h.ln (d:=i) (i:=0) (by omega) hc;exact ⟨gx,cx,h1,h2,h3,h4,h5⟩
theorem Gr.el {B:Nat} {w:World} {g cap N n i c:Nat} {ad:List (Nat×Nat)} {ls:List Ln} (h:Gr B w g cap N n ad ls) (hi:i<N) (hc:c<n) :
  ∃gx cx,ad[i]? = some (gx,cx)/\w.cell? ⟨g,i,none⟩=some (slv gx n cx)/\w.cell? ⟨gx,c,none⟩=some (I (en ls i c))/\Kd 82 B w gx cx (ss (ls.getD i default).1)/\gx≠g:=by
 obtain ⟨gx,cx,h1,h2,h3,h4,h5⟩:=h.ln (d:=i) (i:=0) (by omega) hc;exact ⟨gx,cx,h1,h2,h3,h4,h5⟩
theorem Kid {w0 w:World} {g cap N n d c E:Nat} {ad:List (Nat×Nat)} {ls:List Ln} (hG:Gr w0.heap.size w g cap N n ad ls) (hdN:d<N) (hcn:c<n) (hn2:n<=1000000) (hN:N<=1000000) (hA:Yr E ls) (hz:en ls d c≠0) (hEL:2*E+2<LIM) (hL:Laid w0) (hE0:Ext w0 w) :
  Calls Tryz.prog 258 #[slv g N cap,.int .i64 d,.int .i64 c] w λe w'=>e = .returned (.tuple #[])/\Gr w0.heap.size w' g cap N n ad (QA c d d (Q7 c d ls))/\Ext w0 w':=by
 have HL:=hid hL;have HEL:=hid hEL;have HA:=hid hA;have HZ:=hid hz;obtain ⟨gx,cx,ead,c1,cz,o1,hgx⟩:=hG.el hdN hcn;obtain ⟨z,hzz⟩ : ∃z,z=en ls d c:=⟨_,rfl⟩
 rw [<-hzz] at cz;have Hz:=hid hzz;have hz0:z≠0:=by rw [hzz];exact hz
 have Ead:=hid ead;have HG:=hid hG;have hdN':(d:Int)<(N:Int):=by omega
 have hcn':(c:Int)<(n:Int):=by omega
 have HS:=hid (ZI z);have hll:=hG.len;have Hll:=hid hll;have HT:=hid (λW (hW:Ext w W)=>KiQ (w0:=w0) (w:=W) (i:=d) (hG.ext hW) (by omega) hn2 hdN ead (hA d (by omega)) hEL (hE0.trans hW));obtain ⟨ls3,hls3⟩ : ∃ls3,ls3=Q7 c d ls:=⟨_,rfl⟩
 rw [<-hls3];have Hls3:=hid hls3;clear hL hEL hA hz hzz o1 ead hG hll hgx hls3
 go_enter Tryz.func258,Tryz.ntmps258
 rcases Int.lt_or_gt_of_ne hz0 with hz1 | hz1
 focus
  have hs1:z.sign = -1:=Int.sign_eq_neg_one_of_neg hz1;have hP:=hid (show ls.set d (lneg (ls.getD d default))=Q7 c d ls by unfold Q7;rw [if_pos (by rw [<-Hz.out];exact hz1)]);rw [hs1] at HS;clear hs1 hz1 hz0;go_wp2_with fail;refine (HS.out _).mono ?_;rintro e W3 ⟨rfl,hE3⟩;replace c1:=hE3.cell c1;go_wp2_with fail;refine (HT.out _ hE3).mono ?_;rintro e W4 ⟨rfl,hG4,hE4,hC4⟩;rw [hP.out,<-Hls3.out] at hG4;clear hC4 hE3 HT HS c1 cz;go_wp2_with fail
 rotate_left
 focus
  have hs1:z.sign=1:=Int.sign_eq_one_of_pos hz1;have hP:=hid (show ls=Q7 c d ls by unfold Q7;rw [if_neg (by rw [<-Hz.out];omega)]);rw [hs1] at HS;clear hs1 hz1 hz0;go_wp2_with fail;refine (HS.out _).mono ?_;rintro e W4 ⟨rfl,hE3⟩;have hG4:=HG.out.ext hE3;rw [hP.out,<-Hls3.out] at hG4;have hE4:=hE0.trans hE3;clear hE3 HT HS c1 cz;go_wp2_with fail
 all_goals
  have HA3:=hid (show Yr E ls3 by rw [Hls3.out];exact HA.out.pos (c:=c) (d:=d) (by rw [Hll.out];exact hdN));have HN3:=hid (show ls3.length=N by rw [Hls3.out,ZD];exact Hll.out)
  have HZ3:=hid (show en ls3 d c≠0 by
   rw [Hls3.out,XA (by rw [Hll.out];exact hdN)];have:en ls d c≠0:=HZ.out
   split<;>omega)
  have hR : ∀j,j<=d -> ∀t,t<N->t=d\/j<=t->All (λz=>z.natAbs<2^E) ((QA c d j ls3).getD t default):=λj hj t ht ht2=>by
   rw [Zo c d j (by rw [HN3.out];exact ht),if_neg (by omega)];exact HA3.out t (by rw [HN3.out];exact ht)
  have HR:=hid hR;have hgW:=hG4.base;clear hR HG
  go_loopw [25] (λidx wr => ∃j:Nat,j<=d/\idx = .int .i64 j/\Gr w0.heap.size wr g cap N n ad (QA c d j ls3)/\Ext w0 wr) (λidx _=>d-(intOf idx).toNat)
  case atStart=>exact ⟨0,by omega,by go_num,by rw [KaD];exact hG4,hE4⟩
  case round =>
   obtain ⟨j,hj,rfl,hG5,hE5⟩:=hrel;generalize wr=X at *
   by_cases hjl:j<d
   ·have hji:(j:Int)<(d:Int):=by omega
    have hjN:(j:Int)<(N:Int):=by omega
    obtain ⟨gx',cx',ead',c1',cz',o1',hgx'⟩:=hG5.el (i:=j) (by omega) hcn;obtain ⟨gt,ct,eadt,c1t,czt,ot,hgt⟩:=hG5.el (i:=d) (by omega) hcn;obtain ⟨z',hz'⟩ : ∃z',z'=en (QA c d j ls3) j c:=⟨_,rfl⟩
    obtain ⟨y',hy'⟩ : ∃y',y'=en (QA c d j ls3) d c:=⟨_,rfl⟩
    rw [<-hz'] at cz';rw [<-hy'] at czt
    have hy0:y'≠0:=by
     rw [hy'];have:=HZ3.out;unfold en at this ⊢;rw [Zo c d j (by rw [HN3.out];exact hdN),if_neg (by omega)];exact this
    have hA1:=HR.out j hj j (by omega) (by omega);have hA0:=HR.out j hj d (by omega) (by omega);have hzE:z'.natAbs<2^E:=by rw [hz'];exact hA1.col (Q:=λz=>z.natAbs<2^E) (Nat.pow_pos (by omega)) c
    have hyE:y'.natAbs<2^E:=by rw [hy'];exact hA0.col (Q:=λz=>z.natAbs<2^E) (Nat.pow_pos (by omega)) c
    have hqE:(z'.fdiv y').natAbs<2^E:=Nat.lt_of_le_of_lt (Zc z' hy0) hzE;have hstep:=KaC c d j ls3 hjl (by rw [HN3.out];exact hdN);have hz2:col c ((QA c d j ls3).getD j default)=z':=by rw [hz'];rfl
    have hy2:col c ((QA c d j ls3).getD d default)=y':=by rw [hy'];rfl
    rw [hz2,hy2] at hstep;have Hzl:Hid (nd z'<LIM):=by have:=Ku hzE;have:=HEL.out;exact hid (by omega)
    have Hyl:Hid (nd y'<LIM):=by have:=Ku hyE;have:=HEL.out;exact hid (by omega)
    have Hl:=hid (λW (hW:Ext X W)=>Kej (w0:=w0) (w:=W) (i:=j) (t:=d) (hG5.ext hW) (by omega) hn2 (by omega) hdN (by omega) ead' eadt hA1 hA0 hqE HEL.out HL.out (hE5.trans hW));have Hstep:=hid hstep;have Hy0:=hid hy0;have k1:=cell_regrown cz';have k2:=cell_regrown czt;have k3:=cell_regrown c1';have k4:=cell_regrown c1t;have bD:=hid (KO (w:=X) (λW h=>Qg (a:=z') (b:=y') (w:=W) Hzl.out Hyl.out Hy0.out (HL.out.ext (hE5.trans h))));clear hy' hz' ead' eadt o1' ot hA1 hA0 hzE hyE hqE hstep hy0 hz2 hy2 hgx' hgt hG4 hG5;go_wp2_with fail;refine wp_region_quiet_below (by kernel_rfl) (by kernel_rfl) ?_
    repeat (quiet_step (exact bD.out _ _))
    refine wpQuiet_nil ?_;intro _ hw';obtain ⟨⟨dq,osq⟩,hw''⟩:=hw';subst hw'';have hE6:=Kj X dq osq;have m3:=k3 dq osq;have m4:=k4 dq osq;clear bD k1 k2 k3 k4;generalize hW6:grow (redrawn _ _) _=W6 at *;have n3:=cell_regrown m3;have n4:=cell_regrown m4;clear hW6 m3 m4;go_wp2_with fail;refine Kl 9 (by kernel_rfl) (by kernel_rfl) ?_;simp only [List.take_succ_cons,List.take_zero,List.drop_succ_cons,List.drop_zero]
    repeat (quiet_step (fail))
    refine wpQuiet_nil ?_;intro _ hw';obtain ⟨⟨dq,osq⟩,hw''⟩:=hw';subst hw'';have hE7:=hE6.trans (Kj _ dq osq);clear n3 n4;generalize hW7:grow (redrawn _ _) _=W7 at *;clear hW7;go_wp2_with fail;refine (Hl.out _ hE7).mono ?_;rintro e W8 ⟨rfl,hG8,hE8,_⟩;rw [<-Hstep.out] at hG8;go_wp2_with fail;go_roundw
    case rel=>exact ⟨j+1,by omega,by go_num,hG8,hE8⟩
    case measure=>simp [intOf]<;>omega
   ·have hje:j=d:=by omega
    subst hje;go_wp2_with fail
    go_end0
    exact ⟨rfl,hG5,hE5⟩
end
end Go.Proofs.YtmhfccigejcphaaGreatDoor
