/- Part 28 of the proof of the claim: contracts of the functions that it reaches, and plain laws; no condition. -/
import Derived.Test.YtdmaofimeknkbaaGreatDoorQ27
import Derived.BigRegion
import Derived.Deep.CutRange
set_option maxRecDepth 100000
set_option maxHeartbeats 20000000
namespace Go.Proofs.YtdmaofimeknkbaaGreatDoor
section
open Go.RowKit Go.Sort
open Lib (hid)
def BM (E:Nat) (A:Mx):Prop := ∀r∈A,∀z∈r,z.natAbs<2^E
theorem BM.at {E:Nat} {A:Mx} (h:BM E A) (i:Nat) : ∀z∈A.getD i [],z.natAbs<2^E:=by
 intro z hz
 rcases Nat.lt_or_ge i A.length with hi | hi
 ·rw [Ka hi] at hz;exact h _ (List.getElem_mem hi) z hz
 ·rw [List.getD_eq_getElem?_getD,List.getElem?_eq_none hi] at hz;cases hz
theorem BM.el {E:Nat} {A:Mx} (h:BM E A) (i k:Nat):(eM A i k).natAbs<2^E:=by
 unfold eM
 rcases Nat.lt_or_ge k (A.getD i []).length with hk | hk
 ·rw [Ka hk];exact h.at i _ (List.getElem_mem hk)
 ·rw [List.getD_eq_getElem?_getD,List.getElem?_eq_none hk];exact Nat.pow_pos (by omega)
theorem BM.mono {E F:Nat} {A:Mx} (h:BM E A) (hf:E<=F):BM F A:=λr hr z hz=>Nat.lt_of_lt_of_le (h r hr z hz) (Nat.pow_le_pow_right (by omega) hf)
section
variable {w0 w:World} {n c E:Nat} {x:Wa} {aa al ar:List (Nat×Nat)} {s:Dg} {q:Int} {i t gx cx gt ct:Nat}
theorem Kkh (h:WkR w0.heap.size w n c x aa al ar s) (hc:0<c) (hc2:c<=1000000) (hi:i<n) (ht:t<n) (hne:i≠t) (hai:aa[i]? = some (gx,cx)) (hat:aa[t]? = some (gt,ct))
  (hA : ∀z∈s.a.getD i [],z.natAbs<2^E) (hB : ∀z∈s.a.getD t [],z.natAbs<2^E) (hq:q.natAbs<2^E) (hE:2*E+2<LIM) (hL:Laid w0) (hE0:Ext w0 w) :
  Calls Tryz.prog 95 #[slv gx c cx,slv gt c ct,I q] w λe w' =>
   e = .returned (.tuple #[])/\WkR w0.heap.size w' n c x aa al ar { s with a:=QJ i t q s.a }/\Ext w0 w'/\w.grownBy w' (some gx):=by
 have hi':i<s.a.length:=by rw [h.la];exact hi
 have ht':t<s.a.length:=by rw [h.la];exact ht
 obtain ⟨g1,c1,a1,_,_,o1,l1,_⟩:=h.a.atM h.ra hc hi';obtain ⟨g2,c2,a2,_,_,o2,l2,_⟩:=h.a.atM h.ra hc ht';have hdn:=h.a.neM h.ra hc hi' ht' hne hai hat;rw [hai] at a1;injection a1 with a1;injection a1 with e1 e2;subst e1 e2
 rw [hat] at a2;injection a2 with a2;injection a2 with e1 e2;subst e1 e2
 have hk:=KaD (w0:=w0) (w:=w) (ga:=gx) (ca:=cx) (k:=q) (cb:=ct) o1 o2.sl (Ne.symm hdn) (by rw [l1,l2]) (by rw [l1];exact hc2) (J0 hA hB hq hE) hL hE0;rw [l1] at hk;refine hk.mono ?_;rintro e w' ⟨rfl,hO,hG⟩;exact ⟨rfl,h.setA hc hi hai (by rw [KV];exact l1) hO hG,Kb hE0 hG o1.lt.1,hG⟩
theorem Kki (h:WkR w0.heap.size w n c x aa al ar s) (hn2:n<=1000000) (hi:i<n) (ht:t<n) (hne:i≠t) (hai:al[i]? = some (gx,cx)) (hat:al[t]? = some (gt,ct))
  (hA : ∀z∈s.l.getD i [],z.natAbs<2^E) (hB : ∀z∈s.l.getD t [],z.natAbs<2^E) (hq:q.natAbs<2^E) (hE:2*E+2<LIM) (hL:Laid w0) (hE0:Ext w0 w) :
  Calls Tryz.prog 95 #[slv gx n cx,slv gt n ct,I q] w λe w' =>
   e = .returned (.tuple #[])/\WkR w0.heap.size w' n c x aa al ar { s with l:=QJ i t q s.l }/\Ext w0 w'/\w.grownBy w' (some gx):=by
 have hi':i<s.l.length:=by rw [h.ll];exact hi
 have ht':t<s.l.length:=by rw [h.ll];exact ht
 obtain ⟨g1,c1,a1,_,_,o1,l1,_⟩:=h.l.atM h.rl (by omega) hi';obtain ⟨g2,c2,a2,_,_,o2,l2,_⟩:=h.l.atM h.rl (by omega) ht';have hdn:=h.l.neM h.rl (by omega) hi' ht' hne hai hat;rw [hai] at a1;injection a1 with a1;injection a1 with e1 e2;subst e1 e2
 rw [hat] at a2;injection a2 with a2;injection a2 with e1 e2;subst e1 e2
 have hk:=KaD (w0:=w0) (w:=w) (ga:=gx) (ca:=cx) (k:=q) (cb:=ct) o1 o2.sl (Ne.symm hdn) (by rw [l1,l2]) (by rw [l1];exact hn2) (J0 hA hB hq hE) hL hE0;rw [l1] at hk;refine hk.mono ?_;rintro e w' ⟨rfl,hO,hG⟩;exact ⟨rfl,h.setL hi hai (by rw [KV];exact l1) hO hG,Kb hE0 hG o1.lt.1,hG⟩
theorem Ko6 (h:WkR w0.heap.size w n c x aa al ar s) (hc:0<c) (hc2:c<=1000000) (hi:i<n) (hai:aa[i]? = some (gx,cx)) (hA : ∀z∈s.a.getD i [],z.natAbs<2^E) (hE:2*E+2<LIM) (hE0:Ext w0 w) :
  Calls Tryz.prog 68 #[slv gx c cx] w λe w'=>e = .returned (.tuple #[])/\WkR w0.heap.size w' n c x aa al ar { s with a:=ZT i s.a }/\Ext w0 w':=by
 have hi':i<s.a.length:=by rw [h.la];exact hi
 obtain ⟨g1,c1,a1,_,_,o1,l1,_⟩:=h.a.atM h.ra hc hi';rw [hai] at a1;injection a1 with a1;injection a1 with e1 e2;subst e1 e2
 refine (Kch (B:=w0.heap.size) (w:=w) o1 l1 hc2 (λz hz=>by have:=Kv (hA z hz);omega)).mono ?_;rintro e w' ⟨rfl,hO,hG⟩;exact ⟨rfl,h.setA hc hi hai (by rw [List.length_map];exact l1) hO hG,Kb hE0 hG o1.lt.1⟩
theorem Ko7 (h:WkR w0.heap.size w n c x aa al ar s) (hn2:n<=1000000) (hi:i<n) (hai:al[i]? = some (gx,cx)) (hA : ∀z∈s.l.getD i [],z.natAbs<2^E) (hE:2*E+2<LIM) (hE0:Ext w0 w) :
  Calls Tryz.prog 68 #[slv gx n cx] w λe w'=>e = .returned (.tuple #[])/\WkR w0.heap.size w' n c x aa al ar { s with l:=ZT i s.l }/\Ext w0 w':=by
 have hi':i<s.l.length:=by rw [h.ll];exact hi
 obtain ⟨g1,c1,a1,_,_,o1,l1,_⟩:=h.l.atM h.rl (by omega) hi';rw [hai] at a1;injection a1 with a1;injection a1 with e1 e2;subst e1 e2
 refine (Kch (B:=w0.heap.size) (w:=w) o1 l1 hn2 (λz hz=>by have:=Kv (hA z hz);omega)).mono ?_;rintro e w' ⟨rfl,hO,hG⟩;exact ⟨rfl,h.setL hi hai (by rw [List.length_map];exact l1) hO hG,Kb hE0 hG o1.lt.1⟩
end
def KkC (i o:Nat) (q:Int) (l:List Int):List Int:=l.set i (l.getD i 0-q*l.getD o 0)
@[simp] theorem KgR (i o:Nat) (q:Int) (l:List Int):(KkC i o q l).length=l.length:=by simp [KkC]
theorem Jf (i o:Nat) (q:Int) (A:Mx):Je i o q A=A.map (KkC i o q):=rfl
theorem Kgq {w0 w:World} {n c E:Nat} {x:Wa} {aa al ar:List (Nat×Nat)} {s:Dg} {q:Int} {i o:Nat} (h:WkR w0.heap.size w n c x aa al ar s) (hn:0<n) (hc:0<c) (hn2:n<=1000000) (hc2:c<=1000000) (hi:i<c) (ho:o<c)
  (hA:BM E s.a) (hR:BM E s.r) (hq:q.natAbs<2^E) (hE:2*E+2<LIM) (hL:Laid w0) (hE0:Ext w0 w) :
  Calls Tryz.prog 129 #[.pointer (some ⟨x.p,0,none⟩),.int .i64 i,.int .i64 o,I q] w λe w' =>
   e = .returned (.tuple #[])/\WkR w0.heap.size w' n c x aa al ar { s with a:=Je i o q s.a,r:=Je i o q s.r }/\Ext w0 w':=by
 have hcA:=h.c0;have hcR:=h.c2;have HW:=hid h;have HA:=hid hA;have HR:=hid hR;have Hq:=hid hq;have HE:=hid hE;have HL:=hid hL;have hiI:(i:Int)<(c:Int):=by omega
 have hoI:(o:Int)<(c:Int):=by omega
 have Hla:=hid h.la;have Hlr:=hid h.lr;obtain ⟨f,hf⟩ : ∃f,f=KkC i o q:=⟨_,rfl⟩
 have Hf:=hid hf;have Hfl:=hid (show ∀l,(f l).length=l.length from λl=>by rw [hf];exact KgR _ _ _ _);rw [Jf,Jf,<-hf];obtain ⟨p,ga,ca,gl,cl,gr,cr⟩:=x;simp only at hcA hcR;clear h hA hR hq hE hL hf
 go_enter Tryz.func129,Tryz.ntmps129
 go_wp2_with fail
 go_quiet (fail)
 go_wp2_with fail
 go_loopw [21] (λidx wr => ∃k:Nat,k<=2/\idx = .int .i64 k/\Hid (WkR w0.heap.size wr n c ⟨p,ga,ca,gl,cl,gr,cr⟩ aa al ar { s with a:=if 0<k then s.a.map f else s.a,r:=if 1<k then s.r.map f else s.r })/\Ext w0 wr) (λidx _=>2-(intOf idx).toNat)
 case atStart=>exact ⟨0,by omega,by go_num,hid (HW.out.ext ((Ext.refl _).drewN _)),hE0.drewN _⟩
 case round =>
  obtain ⟨k,hk,rfl,hW,hE1⟩:=hrel;generalize wr=V at *
  rcases (show k=0\/k=1\/k=2 by omega) with rfl | rfl | rfl
  ·rw [if_neg (by omega),if_neg (by omega)] at hW;rw [show ((0:Nat):Int)=0 from rfl];have hW0:=hW;have hix:=λW=>KqY W ga n ca gr c cr
   go_wp2_with fail;clear hix
   go_loopw [26] (λjdx wi => ∃j:Nat,j<=n/\jdx = .int .i64 j/\Hid (WkR w0.heap.size wi n c ⟨p,ga,ca,gl,cl,gr,cr⟩ aa al ar { s with a:=QI f j s.a })/\Ext w0 wi) (λjdx _=>n-(intOf jdx).toNat)
   case atStart=>exact ⟨0,by omega,by go_num,hid (by rw [Jm];exact hW0.out),hE1⟩
   case round =>
    obtain ⟨j,hj,rfl,hWj,hEj⟩:=hrel;generalize wr=Y at *
    by_cases hjl:j<n
    ·have hji:(j:Int)<(n:Int):=by omega
     have hjs:j<s.a.length:=by rw [Hla.out];exact hjl
     have hjm:j<(QI f j s.a).length:=by rw [XU];exact hjs
     obtain ⟨gx,cx,ead,_,c1,o1,l1,hel⟩:=hWj.out.a.atM hWj.out.ra hc hjm;have cx1:=hel i hi;have cy1:=hel o ho;rw [Qv f hjs] at o1 l1;obtain ⟨u,hu⟩ : ∃u,u=s.a.getD j []:=⟨_,rfl⟩
     have hex:eM (QI f j s.a) j i=u.getD i 0:=by unfold eM;rw [Qv f hjs,hu]
     have hey:eM (QI f j s.a) j o=u.getD o 0:=by unfold eM;rw [Qv f hjs,hu]
     obtain ⟨X,hX⟩ : ∃X,X=u.getD i 0:=⟨_,rfl⟩
     obtain ⟨Z,hZ⟩ : ∃Z,Z=u.getD o 0:=⟨_,rfl⟩
     rw [hex,<-hX] at cx1;rw [hey,<-hZ] at cy1;rw [<-hu] at o1 l1;have hXb:X.natAbs<2^E:=by rw [hX,<-hex,show eM (QI f j s.a) j i=eM s.a j i by unfold eM;rw [Qv f hjs]];exact HA.out.el j i
     have hZb:Z.natAbs<2^E:=by rw [hZ,<-hey,show eM (QI f j s.a) j o=eM s.a j o by unfold eM;rw [Qv f hjs]];exact HA.out.el j o
     have n1:=Kv hXb;have n2:=Kv hZb;have n3:=Kv Hq.out;have n4:=QY q Z;have hEl:=HE.out;have c1':=hid (Qn (w:=Y) (λW hh=>ZR (a:=q) (b:=Z) (w:=W) (by omega) (HL.out.ext (hEj.trans hh))));have c2':=hid (Qn (w:=Y) (λW hh=>Ka4 (a:=X) (b:=q*Z) (w:=W) (by omega) (by omega) (HL.out.ext (hEj.trans hh))));have hfu:f u=u.set i (X-q*Z):=by rw [Hf.out,hX,hZ];rfl
     have Hfu:=hid hfu;have Hul:=hid l1;have Hu:=hid hu;have Ead:=hid ead;have HO:=hid o1;have hgxY:=o1.lt;have Hjs:=hid hjs;have d1:=cx1;have fz:=o1.frozen i;have k1:=cell_regrown cx1;have k2:=cell_regrown cy1;clear hex hey hX hZ hXb hZb n1 n2 n3 n4 hEl hfu l1 hu ead o1 hel hjm hjs;go_wp2_with fail;refine Km 13 (by kernel_rfl) (by kernel_rfl) ?_;simp only [List.take_succ_cons,List.take_zero,List.drop_succ_cons,List.drop_zero]
     repeat (quiet_step (first | exact c1'.out _ _ | exact c2'.out _ _))
     refine wpQuiet_nil ?_;intro _ hw';obtain ⟨⟨dq,osq⟩,hw''⟩:=hw';subst hw'';have hE5:=Kk Y dq osq;have d5:=hE5.cell d1;clear c1' c2' k1 k2;generalize grow (redrawn Y dq) osq=w5 at *;have f5:=(HO.out.ext hE5).frozen i;obtain ⟨hO6,hG6⟩:=(HO.out.ext hE5).set i (I (X-q*Z));rw [<-Xr,<-Hfu.out] at hO6;have hW6:=(hWj.out.ext hE5).setA hc hjl Ead.out (by rw [Hfl.out];exact Hul.out) hO6 hG6;have hW7:=hid hW6;have hE7:=Kb (hEj.trans hE5) hG6 hgxY.1;clear hO6 hG6 hW6 hE5;go_wp2_with fail;go_roundw
     case rel=>exact ⟨j+1,by omega,by go_num,hid (by rw [Jl f Hjs.out,<-Hu.out];exact hW7.out),hE7⟩
     case measure=>simp [intOf]<;>omega
    ·have hje:j=n:=by omega
     have hji : ¬(j:Int)<(n:Int):=by omega
     have hWe:=hid (show WkR w0.heap.size Y n c ⟨p,ga,ca,gl,cl,gr,cr⟩ aa al ar { s with a:=s.a.map f } by
      have:=hWj.out;have h7:=Kaw f s.a;rw [Hla.out] at h7
      rw [hje,h7] at this;exact this)
     clear hje;go_wp2_with fail;go_roundw
     case rel=>exact ⟨1,by omega,by go_num,by rw [if_pos (by omega),if_neg (by omega)];exact hWe,hEj⟩
     case measure=>simp [intOf]
  ·rw [if_pos (by omega),if_neg (by omega)] at hW;rw [show ((1:Nat):Int)=1 from rfl];have hW0:=hW;have hix:=λW=>KqZ W ga n ca gr c cr
   go_wp2_with fail;clear hix
   go_loopw [26] (λjdx wi => ∃j:Nat,j<=c/\jdx = .int .i64 j/\Hid (WkR w0.heap.size wi n c ⟨p,ga,ca,gl,cl,gr,cr⟩ aa al ar { s with a:=s.a.map f,r:=QI f j s.r })/\Ext w0 wi) (λjdx _=>c-(intOf jdx).toNat)
   case atStart=>exact ⟨0,by omega,by go_num,hid (by rw [Jm];exact hW0.out),hE1⟩
   case round =>
    obtain ⟨j,hj,rfl,hWj,hEj⟩:=hrel;generalize wr=Y at *
    by_cases hjl:j<c
    ·have hji:(j:Int)<(c:Int):=by omega
     have hjs:j<s.r.length:=by rw [Hlr.out];exact hjl
     have hjm:j<(QI f j s.r).length:=by rw [XU];exact hjs
     obtain ⟨gx,cx,ead,_,c1,o1,l1,hel⟩:=hWj.out.r.atM hWj.out.rr hc hjm;have cx1:=hel i hi;have cy1:=hel o ho;rw [Qv f hjs] at o1 l1;obtain ⟨u,hu⟩ : ∃u,u=s.r.getD j []:=⟨_,rfl⟩
     have hex:eM (QI f j s.r) j i=u.getD i 0:=by unfold eM;rw [Qv f hjs,hu]
     have hey:eM (QI f j s.r) j o=u.getD o 0:=by unfold eM;rw [Qv f hjs,hu]
     obtain ⟨X,hX⟩ : ∃X,X=u.getD i 0:=⟨_,rfl⟩
     obtain ⟨Z,hZ⟩ : ∃Z,Z=u.getD o 0:=⟨_,rfl⟩
     rw [hex,<-hX] at cx1;rw [hey,<-hZ] at cy1;rw [<-hu] at o1 l1;have hXb:X.natAbs<2^E:=by rw [hX,<-hex,show eM (QI f j s.r) j i=eM s.r j i by unfold eM;rw [Qv f hjs]];exact HR.out.el j i
     have hZb:Z.natAbs<2^E:=by rw [hZ,<-hey,show eM (QI f j s.r) j o=eM s.r j o by unfold eM;rw [Qv f hjs]];exact HR.out.el j o
     have n1:=Kv hXb;have n2:=Kv hZb;have n3:=Kv Hq.out;have n4:=QY q Z;have hEl:=HE.out;have c1':=hid (Qn (w:=Y) (λW hh=>ZR (a:=q) (b:=Z) (w:=W) (by omega) (HL.out.ext (hEj.trans hh))));have c2':=hid (Qn (w:=Y) (λW hh=>Ka4 (a:=X) (b:=q*Z) (w:=W) (by omega) (by omega) (HL.out.ext (hEj.trans hh))));have hfu:f u=u.set i (X-q*Z):=by rw [Hf.out,hX,hZ];rfl
     have Hfu:=hid hfu;have Hul:=hid l1;have Hu:=hid hu;have Ead:=hid ead;have HO:=hid o1;have hgxY:=o1.lt;have Hjs:=hid hjs;have d1:=cx1;have fz:=o1.frozen i;have k1:=cell_regrown cx1;have k2:=cell_regrown cy1;clear hex hey hX hZ hXb hZb n1 n2 n3 n4 hEl hfu l1 hu ead o1 hel hjm hjs;go_wp2_with fail;refine Km 13 (by kernel_rfl) (by kernel_rfl) ?_;simp only [List.take_succ_cons,List.take_zero,List.drop_succ_cons,List.drop_zero]
     repeat (quiet_step (first | exact c1'.out _ _ | exact c2'.out _ _))
     refine wpQuiet_nil ?_;intro _ hw';obtain ⟨⟨dq,osq⟩,hw''⟩:=hw';subst hw'';have hE5:=Kk Y dq osq;have d5:=hE5.cell d1;clear c1' c2' k1 k2;generalize grow (redrawn Y dq) osq=w5 at *;have f5:=(HO.out.ext hE5).frozen i;obtain ⟨hO6,hG6⟩:=(HO.out.ext hE5).set i (I (X-q*Z));rw [<-Xr,<-Hfu.out] at hO6;have hW6:=(hWj.out.ext hE5).setR hjl Ead.out (by rw [Hfl.out];exact Hul.out) hO6 hG6;have hW7:=hid hW6;have hE7:=Kb (hEj.trans hE5) hG6 hgxY.1;clear hO6 hG6 hW6 hE5;go_wp2_with fail;go_roundw
     case rel=>exact ⟨j+1,by omega,by go_num,hid (by rw [Jl f Hjs.out,<-Hu.out];exact hW7.out),hE7⟩
     case measure=>simp [intOf]<;>omega
    ·have hje:j=c:=by omega
     have hji : ¬(j:Int)<(c:Int):=by omega
     have hWe:=hid (show WkR w0.heap.size Y n c ⟨p,ga,ca,gl,cl,gr,cr⟩ aa al ar { s with a:=s.a.map f,r:=s.r.map f } by
      have:=hWj.out;have h7:=Kaw f s.r;rw [Hlr.out] at h7
      rw [hje,h7] at this;exact this)
     clear hje;go_wp2_with fail;go_roundw
     case rel=>exact ⟨2,by omega,by go_num,by rw [if_pos (by omega),if_pos (by omega)];exact hWe,hEj⟩
     case measure=>simp [intOf]
  ·rw [if_pos (by omega),if_pos (by omega)] at hW;rw [show ((2:Nat):Int)=2 from rfl];go_wp2_with fail
   go_end0
   exact ⟨rfl,hW.out,hE1⟩
@[simp] theorem KbF (i j:Nat) (l:List Int):(swapL i j l).length=l.length:=by simp [swapL]
theorem Kcy (i j:Nat) (A:Mx):ZC i j A=A.map (swapL i j):=rfl
theorem KcL (i j:Nat) (A:Mx):Zq i j A=sw2 A [] i j:=rfl
theorem Kqw {w0 w:World} {n c:Nat} {x:Wa} {aa al ar:List (Nat×Nat)} {s:Dg} {t row k:Nat} (h:WkR w0.heap.size w n c x aa al ar s) (hn:0<n) (hc:0<c) (ht:t<n) (htc:t<c) (hrow:row<n) (hk:k<c) (hn2:n<=1000000) (hc2:c<=1000000) (hE0:Ext w0 w) :
  Calls Tryz.prog 92 #[.pointer (some ⟨x.p,0,none⟩),.int .i64 t,.int .i64 row,.int .i64 k] w λe w' =>
   e = .returned (.tuple #[])/\WkR w0.heap.size w' n c x (sw2 aa (0,0) t row) (sw2 al (0,0) t row) ar (Kp t row k s)/\Ext w0 w':=by
 obtain ⟨p,ga,ca,gl,cl,gr,cr⟩:=x
 obtain ⟨hcap1,hcap2⟩:n<=ca/\n<=cl:=by
  have h1:=h.a.outer.cap;have h2:=h.l.outer.cap;rw [K5 _ _ h.a.len,h.la] at h1;rw [K5 _ _ h.l.len,h.ll] at h2;exact ⟨h1,h2⟩
 have HW:=hid h;have htI:(t:Int)<(n:Int):=by omega
 have htcI:(t:Int)<(c:Int):=by omega
 have hrI:(row:Int)<(n:Int):=by omega
 have hkI:(k:Int)<(c:Int):=by omega
 obtain ⟨f,hf⟩ : ∃f,f=swapL t k:=⟨_,rfl⟩
 have Hf:=hid hf;have Hfl:=hid (show ∀l,(f l).length=l.length from λl=>by rw [hf];exact KbF _ _ _);have hsD:Kp t row k s=⟨(sw2 s.a [] t row).map f,sw2 s.l [] t row,s.r.map f⟩:=by rw [hf];rfl
 obtain ⟨s2,hs2⟩ : ∃s2:Dg,s2=⟨sw2 s.a [] t row,sw2 s.l [] t row,s.r⟩:=⟨_,rfl⟩
 have Hs2:=hid hs2;rw [hsD,show (⟨(sw2 s.a [] t row).map f,sw2 s.l [] t row,s.r.map f⟩:Dg)=⟨s2.a.map f,s2.l,s2.r.map f⟩ by rw [hs2]];obtain ⟨aa2,haa2⟩ : ∃aa2,aa2=sw2 aa (0,0) t row:=⟨_,rfl⟩
 obtain ⟨al2,hal2⟩ : ∃al2,al2=sw2 al (0,0) t row:=⟨_,rfl⟩
 rw [<-haa2,<-hal2];have Haa2:=hid haa2;have Hal2:=hid hal2;have hcA:=h.c0;have hcL:=h.c1;have hcR:=h.c2;simp only at hcA hcL hcR;obtain ⟨gta,cta,eata,_,hta,_,_,_⟩:=HW.out.a.atM HW.out.ra hc (by rw [HW.out.la];exact ht:t<_);obtain ⟨gia,cia,eaia,_,hia,_,_,_⟩:=HW.out.a.atM HW.out.ra hc (by rw [HW.out.la];exact hrow:row<_);have hSa:=HW.out.swapA hc ht hrow eata eaia;simp only at hSa;have fa:=λo=>h.a.outer.frozen o
 simp only at fa;have hpg:=h.po;simp only at hpg;have hoo:=h.oo;simp only at hoo;have hgB:=h.a.outer.lt.1;simp only at hgB;have HSa:=hid hSa;have Hfz:=hid fa;have fa1:=fa t;have fa2:=fa row;have q1 : ¬p=ga:=hpg.1;have q2 : ¬ga=p:=Ne.symm hpg.1;clear h hsD hf hSa fa eata eaia hs2 haa2 hal2
 go_enter Tryz.func92,Tryz.ntmps92
 go_upto_region 0 with fail
 go_cut [] from 12 to 38 (λwx=>Hid (WkR w0.heap.size wx n c ⟨p,ga,ca,gl,cl,gr,cr⟩ aa2 al ar { s with a:=sw2 s.a [] t row })/\Ext w0 wx)
 case first =>
  rcases Decidable.em (row=t) with hrt | hrt
  ·have ea:slv gia c cia=slv gta c cta:=by rw [hrt,hta] at hia;exact (Option.some.inj hia).symm
   have HS1:=HSa.out;rw [ea,<-Haa2.out,hrt] at HS1;have HS1':=hid HS1;have hg:slv gia c cia=slv gta c cta:=ea;clear hia hrI hrow fa2 HSa HS1 ea hg Haa2 Hal2 Hs2 HW;subst hrt
   go_region
   (try go_wp2_with fail)
   go_meet;exact ⟨hid (HS1'.out.1.ext ((Ext.refl _).drew)),(Kb hE0 HS1'.out.2 hgB).drew⟩
  ·have hrt2 : ¬t=row:=Ne.symm hrt;have HS1:=HSa.out;rw [<-Haa2.out] at HS1;have HS1':=hid HS1;clear HSa HS1 Haa2 Hal2 Hs2 HW
   go_region
   (try go_wp2_with fail)
   go_meet;exact ⟨hid (HS1'.out.1.ext ((Ext.refl _).drew)),(Kb hE0 HS1'.out.2 hgB).drew⟩
 case rest =>
 obtain ⟨HW1,hE1⟩:=hcut;generalize wc=W1 at *;clear HSa hta hia fa1 fa2 hcL hcR hcA HW;have hcL1:=HW1.out.c1;simp only at hcL1;obtain ⟨gtl,ctl,eatl,_,htl,_,_,_⟩:=HW1.out.l.atM HW1.out.rl hn (by rw [HW1.out.ll];exact ht:t<_);obtain ⟨gil,cil,eail,_,hil,_,_,_⟩:=HW1.out.l.atM HW1.out.rl hn (by rw [HW1.out.ll];exact hrow:row<_);have hSl:=HW1.out.swapL hc ht hrow eatl eail;simp only at hSl;have fl1:=HW1.out.l.outer.frozen t;have fl2:=HW1.out.l.outer.frozen row;have hlB:=HW1.out.l.outer.lt.1;have hpl:=HW1.out.po;simp only at fl1 fl2 hlB htl hil hpl;have q3 : ¬p=gl:=hpl.2.1;have q4 : ¬gl=p:=Ne.symm hpl.2.1;rw [<-Hal2.out] at hSl;rw [show ({ a:=sw2 s.a [] t row,l:=sw2 s.l [] t row,r:=s.r }:Dg)=s2 from Hs2.out.symm] at hSl;have HSl:=hid hSl;clear hSl eatl eail HW1 Haa2 Hal2;go_upto_region 1 with fail
 go_cut [] from 38 to 64 (λwx=>Hid (WkR w0.heap.size wx n c ⟨p,ga,ca,gl,cl,gr,cr⟩ aa2 al2 ar s2)/\Ext w0 wx)
 case first =>
  rcases Decidable.em (row=t) with hrt | hrt
  ·have el:slv gil n cil=slv gtl n ctl:=by rw [hrt,htl] at hil;exact (Option.some.inj hil).symm
   have HS1:=HSl.out;rw [el,hrt] at HS1;have HS1':=hid HS1;clear hil hrI hrow fl2 HSl HS1 el Hs2;subst hrt
   go_region
   (try go_wp2_with fail)
   go_meet;exact ⟨hid (HS1'.out.1.ext ((Ext.refl _).drew)),(Kb hE1 HS1'.out.2 hlB).drew⟩
  ·have hrt2 : ¬t=row:=Ne.symm hrt;clear Hs2
   go_region
   (try go_wp2_with fail)
   go_meet;exact ⟨hid (HSl.out.1.ext ((Ext.refl _).drew)),(Kb hE1 HSl.out.2 hlB).drew⟩
 case rest =>
 obtain ⟨HW2,hE2⟩:=hcut;generalize wc=W2 at *;clear HSl htl hil fl1 fl2 hcL1;have cA2:=HW2.out.c0;have cR2:=HW2.out.c2;simp only at cA2 cR2;have Hla:=hid HW2.out.la;have Hlr:=hid HW2.out.lr;go_wp2_with fail
 go_quiet (fail)
 go_wp2_with fail
 go_loopw [73] (λidx wr => ∃kk:Nat,kk<=2/\idx = .int .i64 kk/\Hid (WkR w0.heap.size wr n c ⟨p,ga,ca,gl,cl,gr,cr⟩ aa2 al2 ar { s2 with a:=if 0<kk then s2.a.map f else s2.a,r:=if 1<kk then s2.r.map f else s2.r })/\Ext w0 wr) (λidx _=>2-(intOf idx).toNat)
 case atStart=>exact ⟨0,by omega,by go_num,hid (HW2.out.ext ((Ext.refl _).drewN _)),hE2.drewN _⟩
 case round =>
  obtain ⟨kk,hkk2,rfl,hW,hE1⟩:=hrel;generalize wr=V at *
  rcases (show kk=0\/kk=1\/kk=2 by omega) with rfl | rfl | rfl
  ·rw [if_neg (by omega),if_neg (by omega)] at hW;rw [show ((0:Nat):Int)=0 from rfl];have hW0:=hW;have hix:=λW=>KqY W ga n ca gr c cr
   go_wp2_with fail;clear hix
   go_loopw [78] (λjdx wi => ∃j:Nat,j<=n/\jdx = .int .i64 j/\Hid (WkR w0.heap.size wi n c ⟨p,ga,ca,gl,cl,gr,cr⟩ aa2 al2 ar { s2 with a:=QI f j s2.a })/\Ext w0 wi) (λjdx _=>n-(intOf jdx).toNat)
   case atStart=>exact ⟨0,by omega,by go_num,hid (by rw [Jm];exact hW0.out),hE1⟩
   case round =>
    obtain ⟨j,hj,rfl,hWj,hEj⟩:=hrel;generalize wr=Y at *
    by_cases hjl:j<n
    ·have hji:(j:Int)<(n:Int):=by omega
     have hjs:j<s2.a.length:=by rw [Hla.out];exact hjl
     have hjm:j<(QI f j s2.a).length:=by rw [XU];exact hjs
     obtain ⟨gx,cx,ead,_,c1,o1,l1,hel⟩:=hWj.out.a.atM hWj.out.ra hc hjm;have cx1:=hel t htc;have cy1:=hel k hk;rw [Qv f hjs] at o1 l1;obtain ⟨u,hu⟩ : ∃u,u=s2.a.getD j []:=⟨_,rfl⟩
     have hex:eM (QI f j s2.a) j t=u.getD t 0:=by unfold eM;rw [Qv f hjs,hu]
     have hey:eM (QI f j s2.a) j k=u.getD k 0:=by unfold eM;rw [Qv f hjs,hu]
     obtain ⟨X,hX⟩ : ∃X,X=u.getD t 0:=⟨_,rfl⟩
     obtain ⟨Z,hZ⟩ : ∃Z,Z=u.getD k 0:=⟨_,rfl⟩
     rw [hex,<-hX] at cx1;rw [hey,<-hZ] at cy1;rw [<-hu] at o1 l1;have hfu:f u=(u.set t Z).set k X:=by rw [Hf.out,hX,hZ];rfl
     have hO1:=o1.set t (I Z);have hO2:=hO1.1.set k (I X);rw [<-Xr,<-Xr,<-hfu] at hO2;have hG6:=Kg hO1.2 hO2.2;have hW6:=hWj.out.setA hc hjl ead (by rw [Hfl.out];exact l1) hO2.1 hG6
     have hW7:=hid (show WkR w0.heap.size _ n c ⟨p,ga,ca,gl,cl,gr,cr⟩ aa2 al2 ar { s2 with a:=QI f (j+1) s2.a } by
      rw [Jl f hjs,<-hu];exact hW6.ext ((Ext.refl _).drew))
     have hE7:=hid (Kb hEj hG6 o1.lt.1).drew;have f1:=o1.frozen t;have f2:=o1.frozen k;clear hex hey hX hZ hfu hO1 hO2 hG6 hW6 l1 hu ead o1 hel hjm hjs
     by_cases htk:t=k
     ·have Htk:=hid htk
      have hXZ:I X=I Z:=by
       rw [htk] at cx1;rw [cx1] at cy1;exact Option.some.inj cy1
      have HXZ:=hid hXZ;rw [HXZ.out] at hW7 hE7;rw [htk] at hW7 hE7 cx1 f1;have hkk:(t:Int)=(k:Int):=by omega
      clear htk hXZ cx1 f1;rw [Htk.out];go_wp2_with fail
      go_region
      generalize hw7:World.drew (World.setCell _ _ _)=w7 at *;clear hw7;go_wp2_with fail;go_roundw
      case rel=>exact ⟨j+1,by omega,by go_num,hW7,hE7.out⟩
      case measure=>simp [intOf]<;>omega
     ·have hkt : ¬k=t:=Ne.symm htk;go_wp2_with fail
      go_region
      generalize hw7:World.drew (World.setCell _ _ _)=w7 at *;clear hw7;go_wp2_with fail;go_roundw
      case rel=>exact ⟨j+1,by omega,by go_num,hW7,hE7.out⟩
      case measure=>simp [intOf]<;>omega
    ·have hje:j=n:=by omega
     have hji : ¬(j:Int)<(n:Int):=by omega
     have hWe:=hid (show WkR w0.heap.size Y n c ⟨p,ga,ca,gl,cl,gr,cr⟩ aa2 al2 ar { s2 with a:=s2.a.map f } by
      have:=hWj.out;have h7:=Kaw f s2.a;rw [Hla.out] at h7
      rw [hje,h7] at this;exact this)
     clear hje;go_wp2_with fail;go_roundw
     case rel=>exact ⟨1,by omega,by go_num,by rw [if_pos (by omega),if_neg (by omega)];exact hWe,hEj⟩
     case measure=>simp [intOf]
  ·rw [if_pos (by omega),if_neg (by omega)] at hW;rw [show ((1:Nat):Int)=1 from rfl];have hW0:=hW;have hix:=λW=>KqZ W ga n ca gr c cr
   go_wp2_with fail;clear hix
   go_loopw [78] (λjdx wi => ∃j:Nat,j<=c/\jdx = .int .i64 j/\Hid (WkR w0.heap.size wi n c ⟨p,ga,ca,gl,cl,gr,cr⟩ aa2 al2 ar { s2 with a:=s2.a.map f,r:=QI f j s2.r })/\Ext w0 wi) (λjdx _=>c-(intOf jdx).toNat)
   case atStart=>exact ⟨0,by omega,by go_num,hid (by rw [Jm];exact hW0.out),hE1⟩
   case round =>
    obtain ⟨j,hj,rfl,hWj,hEj⟩:=hrel;generalize wr=Y at *
    by_cases hjl:j<c
    ·have hji:(j:Int)<(c:Int):=by omega
     have hjs:j<s2.r.length:=by rw [Hlr.out];exact hjl
     have hjm:j<(QI f j s2.r).length:=by rw [XU];exact hjs
     obtain ⟨gx,cx,ead,_,c1,o1,l1,hel⟩:=hWj.out.r.atM hWj.out.rr hc hjm;have cx1:=hel t htc;have cy1:=hel k hk;rw [Qv f hjs] at o1 l1;obtain ⟨u,hu⟩ : ∃u,u=s2.r.getD j []:=⟨_,rfl⟩
     have hex:eM (QI f j s2.r) j t=u.getD t 0:=by unfold eM;rw [Qv f hjs,hu]
     have hey:eM (QI f j s2.r) j k=u.getD k 0:=by unfold eM;rw [Qv f hjs,hu]
     obtain ⟨X,hX⟩ : ∃X,X=u.getD t 0:=⟨_,rfl⟩
     obtain ⟨Z,hZ⟩ : ∃Z,Z=u.getD k 0:=⟨_,rfl⟩
     rw [hex,<-hX] at cx1;rw [hey,<-hZ] at cy1;rw [<-hu] at o1 l1;have hfu:f u=(u.set t Z).set k X:=by rw [Hf.out,hX,hZ];rfl
     have hO1:=o1.set t (I Z);have hO2:=hO1.1.set k (I X);rw [<-Xr,<-Xr,<-hfu] at hO2;have hG6:=Kg hO1.2 hO2.2;have hW6:=hWj.out.setR hjl ead (by rw [Hfl.out];exact l1) hO2.1 hG6
     have hW7:=hid (show WkR w0.heap.size _ n c ⟨p,ga,ca,gl,cl,gr,cr⟩ aa2 al2 ar { s2 with a:=s2.a.map f,r:=QI f (j+1) s2.r } by
      rw [Jl f hjs,<-hu];exact hW6.ext ((Ext.refl _).drew))
     have hE7:=hid (Kb hEj hG6 o1.lt.1).drew;have f1:=o1.frozen t;have f2:=o1.frozen k;clear hex hey hX hZ hfu hO1 hO2 hG6 hW6 l1 hu ead o1 hel hjm hjs
     by_cases htk:t=k
     ·have Htk:=hid htk
      have hXZ:I X=I Z:=by
       rw [htk] at cx1;rw [cx1] at cy1;exact Option.some.inj cy1
      have HXZ:=hid hXZ;rw [HXZ.out] at hW7 hE7;rw [htk] at hW7 hE7 cx1 f1;have hkk:(t:Int)=(k:Int):=by omega
      clear htk hXZ cx1 f1;rw [Htk.out];go_wp2_with fail
      go_region
      generalize hw7:World.drew (World.setCell _ _ _)=w7 at *;clear hw7;go_wp2_with fail;go_roundw
      case rel=>exact ⟨j+1,by omega,by go_num,hW7,hE7.out⟩
      case measure=>simp [intOf]<;>omega
     ·have hkt : ¬k=t:=Ne.symm htk;go_wp2_with fail
      go_region
      generalize hw7:World.drew (World.setCell _ _ _)=w7 at *;clear hw7;go_wp2_with fail;go_roundw
      case rel=>exact ⟨j+1,by omega,by go_num,hW7,hE7.out⟩
      case measure=>simp [intOf]<;>omega
    ·have hje:j=c:=by omega
     have hji : ¬(j:Int)<(c:Int):=by omega
     have hWe:=hid (show WkR w0.heap.size Y n c ⟨p,ga,ca,gl,cl,gr,cr⟩ aa2 al2 ar { s2 with a:=s2.a.map f,r:=s2.r.map f } by
      have:=hWj.out;have h7:=Kaw f s2.r;rw [Hlr.out] at h7
      rw [hje,h7] at this;exact this)
     clear hje;go_wp2_with fail;go_roundw
     case rel=>exact ⟨2,by omega,by go_num,by rw [if_pos (by omega),if_pos (by omega)];exact hWe,hEj⟩
     case measure=>simp [intOf]
  ·rw [if_pos (by omega),if_pos (by omega)] at hW;rw [show ((2:Nat):Int)=2 from rfl];go_wp2_with fail
   go_end0
   exact ⟨rfl,hW.out,hE1⟩
end
section
theorem Kat (A:Mx) (i t:Nat) (v:List Int) (h:i<A.length):(A.set i v).getD t []=if t=i then v else A.getD t []:=Q4 A i t v [] h
theorem KnG {k:Int} {E:Nat} {a b:List Int} (hk:k.natAbs<2^E) (ha : ∀z∈a,z.natAbs<2^E) (hb : ∀z∈b,z.natAbs<2^E) : ∀z∈QR k a b,z.natAbs<2^(2*E+1):=by
 have e:2^(2*E+1)=2^E*2^E*2:=by rw [Nat.pow_succ,Nat.two_mul,Nat.pow_add]
 have p0:0<2^E:=Nat.pow_pos (by omega);have h1:2^E<=2^E*2^E:=Nat.le_mul_of_pos_right _ p0;refine Kaa k (Q:=λz=>z.natAbs<2^E) (R:=λz=>z.natAbs<2^E) (λz hz => ?_) (λy z hy hz => ?_) _ _ ha hb
 ·have hz':z.natAbs<2^E:=hz;show z.natAbs<_;omega
 ·have hy':y.natAbs<2^E:=hy;have h2:(k*z).natAbs<=2^E*2^E:=by rw [Int.natAbs_mul];exact Nat.mul_le_mul (Nat.le_of_lt hk) (Nat.le_of_lt hz)
  show (y-k*z).natAbs<_;omega
def qRw (s:Dg) (t i:Nat):Int:=(eM s.a i t).fdiv (eM s.a t t)
theorem ZU (t:Nat) (s:Dg) : ∀j,(Kn t j s).a.length=s.a.length/\(Kn t j s).l.length=s.l.length/\(Kn t j s).r=s.r
 | 0=>⟨rfl,rfl,rfl⟩
 | j+1=>by
  have h:=ZU t s j;refine ⟨?_,?_,h.2.2⟩
  ·show (List.set _ _ _).length=_;rw [List.length_set];exact h.1
  ·show (List.set _ _ _).length=_;rw [List.length_set];exact h.2.1
theorem QZ (t:Nat) (s:Dg) (hl:s.l.length=s.a.length) : ∀j,t+j<s.a.length -> ∀i,
  (Kn t j s).a.getD i []=(if t<i/\i<=t+j then QR (qRw s t i) (s.a.getD i []) (s.a.getD t []) else s.a.getD i [])
  /\ (Kn t j s).l.getD i []=(if t<i/\i<=t+j then QR (qRw s t i) (s.l.getD i []) (s.l.getD t []) else s.l.getD i [])
 | 0,_,i=>by rw [if_neg (by omega),if_neg (by omega)];exact ⟨rfl,rfl⟩
 | j+1,hj,i=>by
  have ih:=QZ t s hl j (by omega);have hlen:=ZU t s j;have e1:=(ih (t+1+j)).1;have e2:=(ih t).1;have e3:=(ih (t+1+j)).2;have e4:=(ih t).2;rw [if_neg (by omega)] at e1 e2 e3 e4
  have hq:(eM (Kn t j s).a (t+1+j) t).fdiv (eM (Kn t j s).a t t)=qRw s t (t+1+j):=by
   unfold qRw eM;rw [e1,e2]
  constructor
  ·show (QJ (t+1+j) t _ (Kn t j s).a).getD i []=_;unfold QJ;rw [Kat _ _ _ _ (by rw [hlen.1];omega),hq,e1,e2,(ih i).1]
   by_cases h:i=t+1+j
   ·subst h;rw [if_pos rfl,if_pos (by omega)]
   ·rw [if_neg h]
    by_cases h2:t<i/\i<=t+j
    ·rw [if_pos h2,if_pos (by omega)]
    ·rw [if_neg h2,if_neg (by omega)]
  ·show (QJ (t+1+j) t _ (Kn t j s).l).getD i []=_;unfold QJ;rw [Kat _ _ _ _ (by rw [hlen.2.1,hl];omega),hq,e3,e4,(ih i).2]
   by_cases h:i=t+1+j
   ·subst h;rw [if_pos rfl,if_pos (by omega)]
   ·rw [if_neg h]
    by_cases h2:t<i/\i<=t+j
    ·rw [if_pos h2,if_pos (by omega)]
    ·rw [if_neg h2,if_neg (by omega)]
theorem Kpg {E:Nat} {A:Mx} (h : ∀i,i<A.length -> ∀z∈A.getD i [],z.natAbs<2^E):BM E A:=λr hr z hz=>by
 obtain ⟨i,hi,rfl⟩:=List.getElem_of_mem hr;exact h i hi z (by rw [Ka hi];exact hz)
theorem Kq7 {s:Dg} {t i E:Nat} (hA:BM E s.a) (hp:eM s.a t t≠0):(qRw s t i).natAbs<2^E:=Nat.lt_of_le_of_lt (Zi _ hp) (hA.el i t)
theorem KhR {s:Dg} {t j E:Nat} (hl:s.l.length=s.a.length) (hj:t+j<s.a.length) (hA:BM E s.a) (hL:BM E s.l) (hp:eM s.a t t≠0):BM (2*E+1) (Kn t j s).a/\BM (2*E+1) (Kn t j s).l:=by
 have hm : ∀z:Int,z.natAbs<2^E->z.natAbs<2^(2*E+1):=λz hz=>Nat.lt_of_lt_of_le hz (Nat.pow_le_pow_right (by omega) (by omega))
 constructor
 ·refine Kpg λi _ z hz => ?_
  rw [(QZ t s hl j hj i).1] at hz;split at hz
  ·exact KnG (Kq7 hA hp) (hA.at i) (hA.at t) z hz
  ·exact hm z (hA.at i z hz)
 ·refine Kpg λi _ z hz => ?_
  rw [(QZ t s hl j hj i).2] at hz;split at hz
  ·exact KnG (Kq7 hA hp) (hL.at i) (hL.at t) z hz
  ·exact hm z (hL.at i z hz)
def YK (t:Nat) (Q:Nat->Int) (j:Nat) (l:List Int):List Int:=l.mapIdx λk v=>if t<k/\k<=t+j then v-Q k*l.getD t 0 else v
@[simp] theorem Kcx (t:Nat) (Q:Nat->Int) (j:Nat) (l:List Int):(YK t Q j l).length=l.length:=by simp [YK]
theorem QS (t:Nat) (Q:Nat->Int) (j:Nat) (l:List Int) (k:Nat):(YK t Q j l).getD k 0=if k<l.length then (if t<k/\k<=t+j then l.getD k 0-Q k*l.getD t 0 else l.getD k 0) else 0:=by
 by_cases hk:k<l.length
 ·rw [if_pos hk,Ka (by simpa using hk)];simp only [YK,List.getElem_mapIdx];rw [Ka hk]
 ·rw [if_neg hk,List.getD_eq_getElem?_getD,List.getElem?_eq_none (by simp;omega)];rfl
theorem KkB (t:Nat) (Q:Nat->Int) (l:List Int):YK t Q 0 l=l:=List.ext_getElem (by simp) λk h1 h2=>by
 simp only [YK,List.getElem_mapIdx];rw [if_neg (by omega)]
theorem Ke9 (t:Nat) (Q:Nat->Int) (j:Nat) (l:List Int):KkC (t+1+j) t (Q (t+1+j)) (YK t Q j l)=YK t Q (j+1) l:=by
 refine List.ext_getElem (by simp) λk h1 h2 => ?_
 have hk:k<l.length:=by simpa using h2
 rw [<-Ka h1 0,<-Ka h2 0,QS,if_pos hk];unfold KkC
 by_cases e:t+1+j=k
 ·subst e;rw [Q4 _ _ _ _ _ (by simpa using hk),if_pos rfl,QS,QS,if_pos hk,if_neg (by omega),if_pos (by omega),if_neg (by omega),if_pos (by omega)]
 ·by_cases hm:t+1+j<l.length
  ·rw [Q4 _ _ _ _ _ (by simpa using hm),if_neg (Ne.symm e),QS,if_pos hk]
   by_cases h3:t<k/\k<=t+j
   ·rw [if_pos h3,if_pos (by omega)]
   ·rw [if_neg h3,if_neg (by omega)]
  ·rw [List.set_eq_of_length_le (by simpa using hm),QS,if_pos hk]
   by_cases h3:t<k/\k<=t+j
   ·rw [if_pos h3,if_pos (by omega)]
   ·rw [if_neg h3,if_neg (by omega)]
def qC (s:Dg) (t k:Nat):Int:=(eM s.a t k).fdiv (eM s.a t t)
theorem Ji (f:List Int->List Int) (hf:f []=[]) (A:Mx) (i k:Nat):eM (A.map f) i k=(f (A.getD i [])).getD k 0:=by
 unfold eM
 rcases Nat.lt_or_ge i A.length with hi | hi
 ·rw [Yj f A i hi [] []]
 ·rw [show (A.map f).getD i []=[] by rw [List.getD_eq_getElem?_getD,List.getElem?_eq_none (by simpa using hi)];rfl,show A.getD i []=[] by rw [List.getD_eq_getElem?_getD,List.getElem?_eq_none hi];rfl,hf]
theorem Yh (t c:Nat) (s:Dg) (hR:Ku c s.a) (ht:t<s.a.length) : ∀j,t+j<c->(Qc t j s).a=s.a.map (YK t (qC s t) j)/\(Qc t j s).l=s.l/\(Qc t j s).r=s.r.map (YK t (qC s t) j)
 | 0,_=>by
  have e:YK t (qC s t) 0=id:=funext λl=>KkB _ _ _
  have h1 : ∀A:Mx,A.map (YK t (qC s t) 0)=A:=λA=>by rw [e];exact List.map_id _
  exact ⟨(h1 _).symm,rfl,(h1 _).symm⟩
 | j+1,hj=>by
  obtain ⟨i1,i2,i3⟩:=Yh t c s hR ht j (by omega);have hrl:(s.a.getD t []).length=c:=by rw [Ka ht];exact hR _ (List.getElem_mem ht)
  have e1:eM (Qc t j s).a t (t+1+j)=eM s.a t (t+1+j):=by
   rw [i1,Ji _ (by simp [YK]),QS,if_pos (by omega),if_neg (by omega)];rfl
  have e2:eM (Qc t j s).a t t=eM s.a t t:=by
   rw [i1,Ji _ (by simp [YK]),QS,if_pos (by omega),if_neg (by omega)];rfl
  have hq:(eM (Qc t j s).a t (t+1+j)).fdiv (eM (Qc t j s).a t t)=qC s t (t+1+j):=by rw [e1,e2];rfl
  refine ⟨?_,i2,?_⟩
  ·show Je (t+1+j) t _ (Qc t j s).a=_;rw [hq,i1,Jf,List.map_map]
   congr 1;funext l;exact Ke9 _ _ _ _
  ·show Je (t+1+j) t _ (Qc t j s).r=_;rw [hq,i3,Jf,List.map_map]
   congr 1;funext l;exact Ke9 _ _ _ _
theorem Kfa (t c:Nat) (s:Dg) (hR:Ku c s.a) (ht:t<s.a.length) (j:Nat) (hj:t+1+j<c):eM (Qc t j s).a t (t+1+j)=eM s.a t (t+1+j)/\eM (Qc t j s).a t t=eM s.a t t:=by
 obtain ⟨i1,_,_⟩:=Yh t c s hR ht j (by omega);have hrl:(s.a.getD t []).length=c:=by rw [Ka ht];exact hR _ (List.getElem_mem ht)
 rw [i1];constructor
 ·rw [Ji _ (by simp [YK]),QS,if_pos (by omega),if_neg (by omega)];rfl
 ·rw [Ji _ (by simp [YK]),QS,if_pos (by omega),if_neg (by omega)];rfl
theorem Kmf {t j E:Nat} {Q:Nat->Int} {l:List Int} (hQ : ∀k,(Q k).natAbs<2^E) (hl : ∀z∈l,z.natAbs<2^E) : ∀z∈YK t Q j l,z.natAbs<2^(2*E+1):=by
 intro z hz;obtain ⟨k,hk,rfl⟩:=List.getElem_of_mem hz;have hk':k<l.length:=by simpa using hk
 have e:2^(2*E+1)=2^E*2^E*2:=by rw [Nat.pow_succ,Nat.two_mul,Nat.pow_add]
 have p0:0<2^E:=Nat.pow_pos (by omega);have h1:2^E<=2^E*2^E:=Nat.le_mul_of_pos_right _ p0;have h2:=hl _ (List.getElem_mem hk');simp only [YK,List.getElem_mapIdx];split
 ·have h3:(l.getD t 0).natAbs<2^E:=by
   rcases Nat.lt_or_ge t l.length with ht | ht
   ·rw [Ka ht];exact hl _ (List.getElem_mem ht)
   ·rw [List.getD_eq_getElem?_getD,List.getElem?_eq_none ht];exact p0
  have h4:(Q k*l.getD t 0).natAbs<=2^E*2^E:=by rw [Int.natAbs_mul];exact Nat.mul_le_mul (Nat.le_of_lt (hQ k)) (Nat.le_of_lt h3)
  omega
 ·omega
theorem KgS {s:Dg} {t c j E:Nat} (hR:Ku c s.a) (ht:t<s.a.length) (hj:t+j<c) (hA:BM E s.a) (hr:BM E s.r) (hp:eM s.a t t≠0):BM (2*E+1) (Qc t j s).a/\BM (2*E+1) (Qc t j s).r:=by
 obtain ⟨i1,_,i3⟩:=Yh t c s hR ht j hj;have hQ : ∀k,(qC s t k).natAbs<2^E:=λk=>Nat.lt_of_le_of_lt (Zi _ hp) (hA.el t k)
 rw [i1,i3];constructor
 ·intro r hr2 z hz;obtain ⟨l,hl,rfl⟩:=List.mem_map.1 hr2;exact Kmf hQ (hA l hl) z hz
 ·intro r hr2 z hz;obtain ⟨l,hl,rfl⟩:=List.mem_map.1 hr2;exact Kmf hQ (hr l hl) z hz
end
end Go.Proofs.YtdmaofimeknkbaaGreatDoor
