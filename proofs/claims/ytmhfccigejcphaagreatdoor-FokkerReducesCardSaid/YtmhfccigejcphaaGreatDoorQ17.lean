/- Part 17 of the proof of the claim: contracts of the functions that it reaches, and plain laws; no condition. -/
import Derived.Test.YtmhfccigejcphaaGreatDoorQ16
import Derived.Test.YtmhfccigejcphaaGreatDoorQ14
import Derived.Test.YtmhfccigejcphaaGreatDoorQ15
import Derived.Test.YtmhfccigejcphaaGreatDoorQ11
set_option maxRecDepth 100000
set_option maxHeartbeats 20000000
namespace Go.Proofs.YtmhfccigejcphaaGreatDoor
section
open Hnf (V Ko Ech Red)
theorem Kp7 {l:List Int} {j:Nat} (h:l.length<=j):vr l j=0:=by
 show l.getD j 0=0;rw [List.getD_eq_getElem?_getD,List.getElem?_eq_none h];rfl
theorem Kby {l:List Int} {c:Nat} (j:Nat):vr (l.take c) j=if j<c then vr l j else 0:=by
 by_cases h:j<c
 ·rw [if_pos h];exact X5 h
 ·rw [if_neg h];exact Kp7 (by simp;omega)
theorem Kc3 (l:List Int) (c j:Nat):vr (l.drop c) j=vr l (c+j):=Ke1 l c j
theorem Kne {c:Nat} {A B:List V} (hAB : ∀r∈A,Ko B (λj=>if j<c then r j else 0)) {v:V} (h:Ko A v):Ko B (λj=>if j<c then v j else 0):=by
 induction h with
 | zero=>exact KG .zero λj=>by simp
 | @step v r q _ hr ih =>
  refine KG (ih.sub q (hAB r hr)) λj => ?_
  simp only [Hnf.sub];split<;>simp
theorem KiN {c:Nat} {A B:List V} (hAB : ∀r∈A,Ko B (λj=>r (c+j))) {v:V} (h:Ko A v):Ko B (λj=>v (c+j)):=by
 induction h with
 | zero=>exact .zero
 | @step v r q _ hr ih=>exact ih.sub q (hAB r hr)
theorem Kmx {H:Mx} {v:V} (h:v∈KC H) : ∃i,i<H.length/\v=vr (H.getD i []):=by
 obtain ⟨r,hr,rfl⟩:=List.mem_map.1 h;obtain ⟨i,hi,rfl⟩:=List.getElem_of_mem hr;exact ⟨i,hi,by rw [Ka hi]⟩
theorem Kps (H:Mx) (i j:Nat):vr (H.getD i []) j=eM H i j:=rfl
theorem Ke3 {c:Nat} {M H:Mx} (hM:Ks c M) (hH:Zn (c+M.length) (KU M) H) :
  ∃qs,IsH c qs ((upr c H).map (List.take c))/\(∀v∈KC ((upr c H).map (List.take c)),Ko (KC M) v)/\(∀v∈KC M,Ko (KC ((upr c H).map (List.take c))) v):=by
 obtain ⟨⟨ps,hI⟩,h1,h2⟩:=hH;obtain ⟨u,hu,e1,e2,p1,p2⟩:=hI.split c;rw [e1];refine ⟨ps.take u,hI.leftU (by omega) hu p1,λv hv => ?_,λv hv => ?_⟩
 ·obtain ⟨r,hr,rfl⟩:=List.mem_map.1 hv;obtain ⟨s,hs,rfl⟩:=List.mem_map.1 hr;have hw:=Kcf hM (h1 _ (List.mem_map.2 ⟨s,List.mem_of_mem_take hs,rfl⟩));refine Knd.2 ⟨λi=>vr s (c+i),?_⟩
  funext j
  rw [Kby]
  by_cases hj:j<c
  ·rw [if_pos hj];exact hw.1 j hj
  ·rw [if_neg hj];exact (Ya λi _=>by rw [Kl4 hM (by omega)];simp).symm
 ·obtain ⟨r,hr,rfl⟩:=List.mem_map.1 hv;obtain ⟨i,hi,rfl⟩:=List.getElem_of_mem hr;have hW:Ko (KC H) (vr ((KU M)[i]'(by simpa using hi))):=h2 _ (List.mem_map.2 ⟨_,List.getElem_mem _,rfl⟩)
  have hc:=Kne (c:=c) (B:=KC ((H.take u).map (List.take c))) (λr hr=>by
   obtain ⟨k,hk,rfl⟩:=Kmx hr
   by_cases hku:k<u
   ·refine .mem (List.mem_map.2 ⟨(H.getD k []).take c,List.mem_map.2 ⟨H.getD k [],?_,rfl⟩,?_⟩)
    ·rw [Ka hk];have:k<(H.take u).length:=by simp;omega
     have h3:=List.getElem_mem this;rwa [List.getElem_take] at h3
    ·funext j;exact Kby j
   ·refine KG .zero λj => ?_
    by_cases hj:j<c
    ·rw [if_pos hj,Kps];exact hI.left k hk j (by have:=p2 k (by omega) hk;omega)
    ·rw [if_neg hj]) hW
  refine KG hc λj => ?_
  rw [Kbz hM hi]
  by_cases hj:j<c
  ·rw [if_pos hj,if_pos hj,Kjp hi]
  ·rw [if_neg hj,<-Kjp hi,Kl4 hM (by omega)]
theorem Kep {c m:Nat} {ps:List Nat} {H:Mx} (hI:IsH m ps H):Ks m (upr c H) /\ ∀r∈upr c H,pv r<c/\pv r<m:=by
 refine ⟨λr hr=>hI.rect r (List.mem_filter.1 hr).1,λr hr => ?_⟩;obtain ⟨h1,h2⟩:=List.mem_filter.1 hr;refine ⟨of_decide_eq_true h2,?_⟩;obtain ⟨i,hi,rfl⟩:=List.getElem_of_mem h1;have:=hI.lt i hi;rwa [hI.pvs hi,Ka hi] at this
def Yt (c:Nat) (H:Mx) (n:Nat) (b:List Int):List Int:=Qv (upr c H) (b++List.replicate n 0)
@[simp] theorem KcA (c:Nat) (H:Mx) (n:Nat) (b:List Int):(Yt c H n b).length=b.length+n:=by simp [Yt]
theorem KhQ (b:List Int) (n j:Nat):vr (b++List.replicate n 0) j=if j<b.length then vr b j else 0:=by
 unfold vr;simp only [List.getD_eq_getElem?_getD]
 by_cases hj:j<b.length
 ·rw [if_pos hj,List.getElem?_append_left hj]
 ·rw [if_neg hj,List.getElem?_append_right (by omega),List.getElem?_replicate];split<;>rfl
theorem Knc {c:Nat} {M H:Mx} {b:List Int} (hM:Ks c M) (hH:Zn (c+M.length) (KU M) H) (hb:b.length=c):Y8 ((Yt c H M.length b).take c)↔Ko (KC M) (vr b):=by
 obtain ⟨qs,hU,a1,a2⟩:=Ke3 hM hH;obtain ⟨⟨ps,hI⟩,h1,h2⟩:=hH;have hr:=Kep (c:=c) hI;unfold Yt;rw [Kff _ _ hr.1 (by simp [hb]) hr.2,List.take_left' hb,KkX hU hb];exact ⟨λh=>h.trans a1,λh=>h.trans a2⟩
def Kbe (l:List Int):List Int:=l.map λz => -z
@[simp] theorem Kct (l:List Int):(Kbe l).length=l.length:=by simp [Kbe]
theorem KoH (l:List Int) (j:Nat):vr (Kbe l) j = -vr l j:=by
 have:=congrFun (KiV l) j;simp only [Hnf.sub] at this;show vr (l.map λz => -z) j=_;omega
theorem Kov {c:Nat} {M H:Mx} {b:List Int} (hM:Ks c M) (hH:Zn (c+M.length) (KU M) H) (hb:b.length=c) (hz:Y8 ((Yt c H M.length b).take c)) : ∀j,j<c->cmb M (vr (Kbe ((Yt c H M.length b).drop c))) j=vr b j:=by
 intro j hj;obtain ⟨⟨ps,hI⟩,h1,h2⟩:=hH;have hr:=Kep (c:=c) hI;have hs:=Kam (n:=c+M.length) (upr c H) (b++List.replicate M.length 0) hr.1 (by simp [hb])
 have hs2:=(hs.mono (N:=KC H) λv hv=>by
  obtain ⟨r,hr,rfl⟩:=List.mem_map.1 hv
  exact List.mem_map.2 ⟨r,(List.mem_filter.1 hr).1,rfl⟩).trans h1
 have hw:=(Kcf hM hs2).1 j hj;have e:Qv (upr c H) (b++List.replicate M.length 0)=Yt c H M.length b:=rfl;rw [e] at hw;have z0:=Kc4.1 hz j;rw [Kby,if_pos hj] at z0;simp only [Hnf.sub] at hw;rw [z0,KhQ,hb,if_pos hj] at hw
 have e2:(λi=>vr (b++List.replicate M.length 0) (c+i)-1*vr (Yt c H M.length b) (c+i))=vr (Kbe ((Yt c H M.length b).drop c)):=by
  funext i
  rw [KoH,Kc3,KhQ,hb,if_neg (by omega)];omega
 rw [e2] at hw;omega
theorem KgL : ∀(k:Nat) {F:List (Nat×V)} {b:Nat},Ech b F -> ∃b',Ech b' (F.drop k)
 | 0,F,b,h=>⟨b,h⟩
 | k+1,[],b,h=>⟨b,h⟩
 | k+1,(p,f)::F,b,h=>by obtain ⟨_,_,_,h4⟩:=h;exact KgL k h4
theorem Kfq {F:List (Nat×V)} {b:Nat} (hE:Ech b F) {v:V} (hv:Ko (Hnf.rows F) v) : ∀u,u<=F.length->(∀i,i<u -> ∀(h:i<F.length),v (F[i]).1=0)->Ko (Hnf.rows (F.drop u)) v
 | 0,_,_=>hv
 | u+1,hu,hz=>by
  have ih:=Kfq hE hv u (by omega) (λi hi h=>hz i (by omega) h);obtain ⟨b',hb'⟩:=KgL u hE;rw [List.drop_eq_getElem_cons (by omega)] at ih hb';obtain ⟨p,hp⟩ : ∃p,p=F[u]'(by omega):=⟨_,rfl⟩
  have h0:=hz u (by omega) (by omega);rw [<-hp] at ih hb' h0;obtain ⟨p1,p2⟩:=p;exact hb'.tail ih h0
theorem Kbb {c:Nat} {M H:Mx} (hM:Ks c M) (hH:Zn (c+M.length) (KU M) H) :
  ∃qs,IsH M.length qs (krn c H) /\ ∀y:V,Ko (KC (krn c H)) y↔(∀j,j<c->cmb M y j=0) /\ ∀i,M.length<=i->y i=0:=by
 obtain ⟨⟨ps,hI⟩,h1,h2⟩:=hH;obtain ⟨u,hu,e1,e2,p1,p2⟩:=hI.split c;have hK:krn c H=(H.drop u).map (List.drop c):=by unfold krn;rw [e2]
 rw [hK];have hD:=hI.rightD (m:=M.length) rfl hu p2;refine ⟨_,hD,λy=>⟨λh => ?_,λh => ?_⟩⟩
 ·induction h with
  | zero=>exact ⟨λj _=>Kdg M j,λ_ _=>rfl⟩
  | @step v r q _ hr ih =>
   obtain ⟨x,hx,rfl⟩:=List.mem_map.1 hr;obtain ⟨s,hs,rfl⟩:=List.mem_map.1 hx;obtain ⟨k,hk,rfl⟩:=List.getElem_of_mem hs;have hk':u+k<H.length:=by simp at hk;omega
   rw [List.getElem_drop] at hx hr ⊢;have hw:=Kcf hM (h1 _ (List.mem_map.2 ⟨H[u+k],List.getElem_mem hk',rfl⟩));refine ⟨λj hj => ?_,λi hi => ?_⟩
   ·rw [KcQ,ih.1 j hj];have e3:vr (List.drop c H[u+k])=λi=>vr H[u+k] (c+i):=by funext i;exact Kc3 _ _ _
    rw [e3,<-hw.1 j hj];have:=hI.left (u+k) hk' j (by have:=p2 (u+k) (by omega) hk';omega);rw [Kjp hk'] at this;rw [this];simp
   ·simp only [Hnf.sub];rw [ih.2 i hi,Kc3,hw.2 _ (by omega)];simp
 ·have hv:Ko (KC (KU M)) (λj=>if j<c then 0 else y (j-c)):=by
   refine Kk5 hM (λj hj => ?_) λj hj => ?_
   ·rw [if_pos hj];have e3:(λi=>if c+i<c then (0:Int) else y (c+i-c))=y:=by funext i;rw [if_neg (by omega),Nat.add_sub_cancel_left]
    rw [e3,h.1 j hj]
   ·rw [if_neg (by omega)];exact h.2 _ (by omega)
  have hH2:=hv.trans h2;rw [<-Zg hI.len] at hH2
  have ht:=Kfq hI.ech hH2 u (by simp [wps,hI.len];omega) (λi hi h=>by
   have hpi:((wps ps H)[i]'h).1=ps.getD i 0:=by
    have hil:i<ps.length:=by rw [hI.len];omega
    rw [Ka hil];simp [wps]
   rw [hpi,if_pos (p1 i hi)])
  have e3:Hnf.rows ((wps ps H).drop u)=KC (H.drop u):=by
   have:=Zg hI.len;unfold Hnf.rows at this ⊢;rw [List.map_drop,this];simp [KC,List.map_drop]
  rw [e3] at ht
  have hsh:=KiN (c:=c) (B:=KC ((H.drop u).map (List.drop c))) (λr hr=>by
   obtain ⟨s,hs,rfl⟩:=List.mem_map.1 hr;refine .mem (List.mem_map.2 ⟨s.drop c,List.mem_map.2 ⟨s,hs,rfl⟩,?_⟩)
   funext j;exact Kc3 _ _ _) ht
  refine KG hsh λj => ?_
  rw [if_neg (by omega),Nat.add_sub_cancel_left]
def XU (c:Nat) (H:Mx) (n:Nat) (b:List Int):List Int:=Qv (krn c H) (Kbe ((Yt c H n b).drop c))
theorem KcB {c n:Nat} {H:Mx} {b:List Int} (hb:b.length=c):(XU c H n b).length=n:=by
 unfold XU;rw [YI,Kct,List.length_drop,KcA,hb];omega
theorem Knb {c:Nat} {M H:Mx} {b:List Int} (hM:Ks c M) (hH:Zn (c+M.length) (KU M) H) (hb:b.length=c) (hz:Y8 ((Yt c H M.length b).take c)) : ∀j,j<c->cmb M (vr (XU c H M.length b)) j=vr b j:=by
 intro j hj;obtain ⟨qs,hK,hS⟩:=Kbb hM hH;have h0:(Kbe ((Yt c H M.length b).drop c)).length=M.length:=by simp [hb]
 have hs:=Kam (krn c H) _ hK.rect h0;have:=((hS _).1 hs).1 j hj;rw [KcQ,Kov hM hH hb hz j hj] at this;unfold XU;omega
end
section
open Go.RowKit Go.Sort
open Lib (hid)
theorem Y6 (f g h:Nat->Rat) (e : ∀i,h i=f i+g i) : ∀k,QW h k=QW f k+QW g k
 | 0=>by simp [QW];grind
 | k+1=>by
  rw [QW,QW,QW,Y6 f g h e k,e]
  grind
theorem Kbq (q:Rat) (f:Nat->Rat) : ∀n,QW (λi=>q*f i) n=q*QW f n
 | 0=>by show (0:Rat)=q*0;grind
 | n+1=>by rw [QW,QW,Kbq q f n];grind
theorem Kbr {f:Nat->Rat} : ∀n,(∀i,i<n->f i=0)->QW f n=0
 | 0,_=>rfl
 | n+1,h=>by rw [QW,Kbr n (λi hi=>h i (by omega)),h n (by omega)];grind
theorem Kb7 (f:Nat->Int) : ∀n,((KE f n:Int):Rat)=QW (λi=>((f i:Int):Rat)) n
 | 0=>rfl
 | n+1=>by rw [KE,QW,Rat.intCast_add,Kb7 f n]
theorem Kee {f:Nat->Rat} {k:Nat} : ∀n,k<n->(∀i,i<n->i≠k->f i=0)->QW f n=f k
 | n+1,hk,h=>by
  rw [QW]
  by_cases e:k=n
  ·subst e;rw [Kbr k (λi hi=>h i (by omega) (by omega))];grind
  ·rw [Kee n (by omega) (λi hi h2=>h i (by omega) h2),h n (by omega) (λe2=>e e2.symm)];grind
abbrev Mq:=List (List Rat)
def qa (F:Mq) (i j:Nat):Rat:=(F.getD i []).getD j 0
def JJ (n:Nat) (r:List Rat) (y:Nat->Rat):Rat:=QW (λj=>r.getD j 0*y j) n
def KcE (n:Nat) (F:Mq) (y:Nat->Rat):Prop := ∀i,i<F.length->JJ n (F.getD i []) y=0
def QX (n:Nat) (F F':Mq):Prop:=F'.length=F.length /\ ∀y,KcE n F y↔KcE n F' y
theorem QX.refl (n:Nat) (F:Mq):QX n F F:=⟨rfl,λ_=>Iff.rfl⟩
theorem QX.trans {n:Nat} {F G H:Mq} (h:QX n F G) (k:QX n G H):QX n F H:=⟨k.1.trans h.1,λy=>(h.2 y).trans (k.2 y)⟩
theorem Zh (F:Mq) {k:Nat} (hk:k<F.length) (r:List Rat) (i:Nat):(F.set k r).getD i []=if i=k then r else F.getD i []:=by
 rw [List.getD_eq_getElem?_getD,List.getElem?_set]
 by_cases h:k=i
 ·subst h;rw [if_pos rfl,if_pos hk,if_pos rfl];rfl
 ·rw [if_neg h,if_neg (λe=>h e.symm),List.getD_eq_getElem?_getD]
theorem KdK {α:Type} {f:Nat->α} {n t:Nat} (h:t<((List.range n).map f).length):((List.range n).map f)[t]=f t:=by simp
def ZH (r:List Rat) (p:Rat) (j:Nat):List Rat:=(List.range r.length).map λt=>if t<j then r.getD t 0/p else r.getD t 0
@[simp] theorem Yw (r:List Rat) (p:Rat) (j:Nat):(ZH r p j).length=r.length:=by simp [ZH]
theorem KdS {f:Nat->Rat} {n t:Nat}:((List.range n).map f).getD t 0=if t<n then f t else 0:=by
 rw [List.getD_eq_getElem?_getD,List.getElem?_map]
 by_cases h:t<n
 ·rw [List.getElem?_range h,if_pos h];rfl
 ·rw [List.getElem?_eq_none (by simpa using h),if_neg h];rfl
theorem KbL {r:List Rat} {t:Nat} (h:r.length<=t):r.getD t 0=0:=by
 rw [List.getD_eq_getElem?_getD,List.getElem?_eq_none h];rfl
theorem Kab (r:List Rat) (p:Rat) (j t:Nat):(ZH r p j).getD t 0=if t<j then r.getD t 0/p else r.getD t 0:=by
 unfold ZH;rw [KdS]
 by_cases h:t<r.length
 ·rw [if_pos h]
 ·rw [if_neg h,KbL (by omega)];split
  ·grind
  ·rfl
theorem Kdp {r:List Rat} {p:Rat} {j t:Nat} (h:t<(ZH r p j).length):(ZH r p j)[t]=if t<j then r.getD t 0/p else r.getD t 0:=KdK (f:=λt=>if t<j then r.getD t 0/p else r.getD t 0) h
theorem KeZ (r:List Rat) (p:Rat):ZH r p 0=r:=by
 refine List.ext_getElem (by simp) λt h1 h2 => ?_
 simp [ZH,List.getD_eq_getElem?_getD,h2]
theorem Kkp {r:List Rat} {p:Rat} {j:Nat} (_h:j<r.length):(ZH r p j).set j (r.getD j 0/p)=ZH r p (j+1):=by
 refine List.ext_getElem (by simp) λt h1 h2 => ?_
 rw [List.getElem_set,Kdp]
 by_cases e:j=t
 ·subst e;rw [if_pos rfl,Kdp,if_pos (by omega)]
 ·rw [if_neg e,Kdp];split<;>split<;>first | rfl | omega
def Xg (r:List Rat) (f:Rat) (s:List Rat) (j:Nat):List Rat:=(List.range r.length).map λt=>if t<j then r.getD t 0-f*s.getD t 0 else r.getD t 0
@[simp] theorem KhB (r:List Rat) (f:Rat) (s:List Rat) (j:Nat):(Xg r f s j).length=r.length:=by simp [Xg]
theorem Kb6 {r s:List Rat} (hs:s.length=r.length) (f:Rat) (j t:Nat):(Xg r f s j).getD t 0=if t<j then r.getD t 0-f*s.getD t 0 else r.getD t 0:=by
 unfold Xg;rw [KdS]
 by_cases h:t<r.length
 ·rw [if_pos h]
 ·rw [if_neg h,KbL (by omega),KbL (r:=s) (by omega)];split
  ·grind
  ·rfl
theorem Ked {r s:List Rat} {f:Rat} {j t:Nat} (h:t<(Xg r f s j).length):(Xg r f s j)[t]=if t<j then r.getD t 0-f*s.getD t 0 else r.getD t 0:=KdK (f:=λt=>if t<j then r.getD t 0-f*s.getD t 0 else r.getD t 0) h
theorem Kfu (r:List Rat) (f:Rat) (s:List Rat):Xg r f s 0=r:=by
 refine List.ext_getElem (by simp) λt h1 h2 => ?_
 simp [Xg,List.getD_eq_getElem?_getD,h2]
theorem Kk9 (r s:List Rat) (j:Nat):Xg r 0 s j=r:=by
 refine List.ext_getElem (by simp) λt h1 h2 => ?_
 simp only [Xg,List.getElem_map,List.getElem_range,List.getD_eq_getElem?_getD,List.getElem?_eq_getElem h2,Option.getD_some];split
 ·grind
 ·rfl
theorem Kla {r s:List Rat} {f:Rat} {j:Nat} (_h:j<r.length):(Xg r f s j).set j (r.getD j 0-f*s.getD j 0)=Xg r f s (j+1):=by
 refine List.ext_getElem (by simp) λt h1 h2 => ?_
 rw [List.getElem_set,Ked]
 by_cases e:j=t
 ·subst e;rw [if_pos rfl,Ked,if_pos (by omega)]
 ·rw [if_neg e,Ked];split<;>split<;>first | rfl | omega
theorem KlZ {n:Nat} {r:List Rat} {p:Rat} (y:Nat->Rat):JJ n (ZH r p n) y=JJ n r y/p:=by
 unfold JJ;rw [QS n (g:=λj=>(1/p)*(r.getD j 0*y j)) (λj hj=>by rw [Kab,if_pos hj];grind),Kbq]
 grind
theorem Kl0 {n:Nat} {r s:List Rat} {f:Rat} (hr:r.length=n) (hs:s.length=n) (y:Nat->Rat):JJ n (Xg r f s n) y=JJ n r y-f*JJ n s y:=by
 unfold JJ
 have e1:=QS n (f:=λj=>(Xg r f s n).getD j 0*y j) (g:=λj=>r.getD j 0*y j+(-f)*(s.getD j 0*y j)) (λj hj=>by
  rw [Kb6 (by omega),if_pos hj];grind)
 have e2:=Y6 (λj=>r.getD j 0*y j) (λj=>(-f)*(s.getD j 0*y j)) (λj=>r.getD j 0*y j+(-f)*(s.getD j 0*y j)) (λ_=>rfl) n;rw [e1,e2,Kbq]
 grind
theorem Khv {n:Nat} {F:Mq} {k:Nat} {r:List Rat} (hk:k<F.length) (h : ∀y,(∀i,i<F.length->i≠k->JJ n (F.getD i []) y=0)->(JJ n (F.getD k []) y=0↔JJ n r y=0)):QX n F (F.set k r):=by
 refine ⟨by simp,λy=>⟨λhy i hi => ?_,λhy i hi => ?_⟩⟩
 ·rw [Zh F hk]
  by_cases e:i=k
  ·rw [if_pos e];exact (h y (λt ht _=>hy t ht)).1 (hy k hk)
  ·rw [if_neg e];exact hy i (by simpa using hi)
 ·have hy2 : ∀t,t<F.length->t≠k->JJ n (F.getD t []) y=0:=λt ht hne=>by
   have:=hy t (by simpa using ht);rwa [Zh F hk,if_neg hne] at this
  by_cases e:i=k
  ·subst e;have:=hy i (by simpa using hi);rw [Zh F hk,if_pos rfl] at this;exact (h y hy2).2 this
  ·exact hy2 i hi e
theorem Km5 {n:Nat} {F:Mq} {k:Nat} {p:Rat} (hk:k<F.length) (hp:p≠0):QX n F (F.set k (ZH (F.getD k []) p n)) :=
 Khv hk λy _=>by
  rw [KlZ];constructor
  ·intro h;rw [h];grind
  ·intro h;have:JJ n (F.getD k []) y=JJ n (F.getD k []) y/p*p:=by grind
   rw [this,h];grind
theorem Km6 {n:Nat} {F:Mq} {i k:Nat} {f:Rat} (hR:QD n F) (hi:i<F.length) (hk:k<F.length) (hne:i≠k):QX n F (F.set i (Xg (F.getD i []) f (F.getD k []) n)) :=
 Khv hi λy hy=>by
  have hl : ∀t,t<F.length->(F.getD t []).length=n:=λt ht=>by rw [List.getD_eq_getElem?_getD,List.getElem?_eq_getElem ht];exact hR _ (List.getElem_mem ht)
  rw [Kl0 (hl i hi) (hl k hk),hy k hk (Ne.symm hne)];constructor
  ·intro h;rw [h];grind
  ·intro h;grind
theorem Kfn {n:Nat} {F:Mq} {i j:Nat} (hi:i<F.length) (hj:j<F.length):QX n F (sw2 F [] i j):=by
 refine ⟨by simp,λy=>⟨λhy t ht => ?_,λhy t ht => ?_⟩⟩
 ·rw [Xd F [] hi hj];split
  ·exact hy i hi
  ·split
   ·exact hy j hj
   ·exact hy t (by simpa using ht)
 ·by_cases e1:t=i
  ·subst e1;have:=hy j (by simpa using hj);rwa [Xd F [] hi hj,if_pos rfl] at this
  ·by_cases e2:t=j
   ·subst e2;have:=hy i (by simpa using hi);rw [Xd F [] hi hj] at this
    by_cases e3:i=t
    ·exact absurd e3.symm e1
    ·rwa [if_neg e3,if_pos rfl] at this
   ·have:=hy t (by simpa using ht);rwa [Xd F [] hi hj,if_neg e2,if_neg e1] at this
def Kq (F:Mq) (n k c i:Nat):Mq:=(List.range F.length).map λt=>if t<i/\t≠k then Xg (F.getD t []) (qa F t c) (F.getD k []) n else F.getD t []
@[simp] theorem QQ (F:Mq) (n k c i:Nat):(Kq F n k c i).length=F.length:=by simp [Kq]
theorem Xy {F:Mq} {n k c i t:Nat} (ht:t<F.length):(Kq F n k c i).getD t []=if t<i/\t≠k then Xg (F.getD t []) (qa F t c) (F.getD k []) n else F.getD t []:=by
 unfold Kq;rw [List.getD_eq_getElem?_getD,List.getElem?_map,List.getElem?_range ht];rfl
theorem Jh {F:Mq} {n k c i t:Nat} (h:t<(Kq F n k c i).length):(Kq F n k c i)[t]=if t<i/\t≠k then Xg (F.getD t []) (qa F t c) (F.getD k []) n else F.getD t []:=KdK (f:=λt=>if t<i/\t≠k then Xg (F.getD t []) (qa F t c) (F.getD k []) n else F.getD t []) h
theorem JL (F:Mq) (n k c:Nat):Kq F n k c 0=F:=by
 refine List.ext_getElem (by simp) λt h1 h2 => ?_
 simp [Kq,List.getD_eq_getElem?_getD,h2]
theorem JK {F:Mq} {n k c i:Nat} (hik:i≠k):(Kq F n k c i).set i (Xg (F.getD i []) (qa F i c) (F.getD k []) n)=Kq F n k c (i+1):=by
 refine List.ext_getElem (by simp) λt h1 h2 => ?_
 rw [List.getElem_set,Jh,Jh]
 by_cases e:i=t
 ·subst e;simp [hik]
 ·rw [if_neg e];have:(t<i/\t≠k)↔(t<i+1/\t≠k):=by omega
  simp only [this]
theorem Xz {F:Mq} {n k c i:Nat} (h:i=k\/qa F i c=0):Kq F n k c i=Kq F n k c (i+1):=by
 refine List.ext_getElem (by simp) λt h1 h2 => ?_
 rw [Jh,Jh]
 by_cases e:t=i
 ·subst e
  rcases h with h | h
  ·simp [h]
  ·simp [h,Kk9]
 ·have:(t<i/\t≠k)↔(t<i+1/\t≠k):=by omega
  simp only [this]
theorem Qi {n:Nat} {F:Mq} (h:QD n F) {i:Nat} (hi:i<F.length):(F.getD i []).length=n:=by
 rw [List.getD_eq_getElem?_getD,List.getElem?_eq_getElem hi];exact h _ (List.getElem_mem hi)
theorem Y0 {n:Nat} {F:Mq} (h:QD n F) {i:Nat} {r:List Rat} (hr:r.length=n):QD n (F.set i r):=λs hs=>by
 rcases List.mem_or_eq_of_mem_set hs with h1 | rfl
 ·exact h s h1
 ·exact hr
theorem Yz {F:Mq} {n k c i:Nat} (h:QD n F):QD n (Kq F n k c i):=λs hs=>by
 unfold Kq at hs;obtain ⟨t,ht,rfl⟩:=List.mem_map.1 hs;have ht2:=List.mem_range.1 ht;split
 ·rw [KhB];exact Qi h ht2
 ·exact Qi h ht2
theorem Kcm {F:Mq} {n k c:Nat} (h:QD n F) (hk:k<F.length) : ∀i,i<=F.length->QX n F (Kq F n k c i)
 | 0,_=>by rw [JL];exact QX.refl n F
 | i+1,hi=>by
  refine QX.trans (G:=Kq F n k c i) (Kcm h hk i (by omega)) ?_
  by_cases e:i=k
  ·rw [Xz (.inl e)];exact QX.refl _ _
  ·rw [<-JK e];have h1:(Kq F n k c i).getD i []=F.getD i []:=by rw [Xy (by omega),if_neg (by omega)]
   have h2:(Kq F n k c i).getD k []=F.getD k []:=by rw [Xy hk,if_neg (λh=>h.2 rfl)]
   have h3:=Km6 (n:=n) (F:=Kq F n k c i) (i:=i) (k:=k) (f:=qa F i c) (Yz h) (by simp;omega) (by simpa using hk) e;rw [h1,h2] at h3;exact h3
structure RrI (m n c:Nat) (F:Mq) (lead:List Nat):Prop where
 rect:QD n F
 len:F.length=m
 le:lead.length<=m
 lt : ∀t,t<lead.length->lead.getD t 0<c
 inc : ∀t u,t<u->u<lead.length->lead.getD t 0<lead.getD u 0
 unit : ∀t,t<lead.length -> ∀i,i<m->qa F i (lead.getD t 0)=if i=t then 1 else 0
 zero : ∀i,lead.length<=i->i<m -> ∀j,j<c->qa F i j=0
theorem RrI.start {m n:Nat} {F:Mq} (hR:QD n F) (hl:F.length=m):RrI m n 0 F [] :=
 ⟨hR,hl,by simp,λt h=>by simp at h,λt u _ h=>by simp at h,λt h=>by simp at h,λi _ _ j hj=>by omega⟩
theorem RrI.skip {m n c:Nat} {F:Mq} {lead:List Nat} (h:RrI m n c F lead) (hz : ∀i,lead.length<=i->i<m->qa F i c=0):RrI m n (c+1) F lead :=
 ⟨h.rect,h.len,h.le,λt ht=>by have:=h.lt t ht;omega,h.inc,h.unit,λi h1 h2 j hj=>by
  rcases Nat.lt_or_ge j c with h3 | h3
  ·exact h.zero i h1 h2 j h3
  ·obtain rfl:j=c:=by omega
   exact hz i h1 h2⟩
def JB (F:Mq) (n k c:Nat):Mq:=Kq (F.set k (ZH (F.getD k []) (qa F k c) n)) n k c F.length
theorem Kop {F:Mq} {n k c i j:Nat} (hR:QD n F) (hk:k<F.length) (hi:i<F.length) (hj:j<n) :
  qa (JB F n k c) i j=if i=k then qa F k j/qa F k c else qa F i j-qa F i c*(qa F k j/qa F k c):=by
 have hl:=Qi hR hk;have h1:(F.set k (ZH (F.getD k []) (qa F k c) n)).getD k []=ZH (F.getD k []) (qa F k c) n:=by rw [Zh F hk,if_pos rfl]
 unfold qa JB;rw [Xy (by simpa using hi)]
 by_cases e:i=k
 ·subst e;rw [if_neg (λh=>h.2 rfl),if_pos rfl,h1,Kab,if_pos hj];rfl
 ·have h2:(F.set k (ZH (F.getD k []) (qa F k c) n)).getD i []=F.getD i []:=by rw [Zh F hk,if_neg e]
  have h3:qa (F.set k (ZH (F.getD k []) (qa F k c) n)) i c=qa F i c:=by
   show ((F.set k (ZH (F.getD k []) (qa F k c) n)).getD i []).getD c 0=_;rw [h2];rfl
  rw [if_pos ⟨hi,e⟩,if_neg e,h1,h3,Kb6 (by rw [h2,Yw,hl,Qi hR hi]),if_pos hj,h2,Kab,if_pos hj];rfl
theorem RrI.pivot {m n c:Nat} {F:Mq} {lead:List Nat} (h:RrI m n c F lead) (hk:lead.length<m) (hc:c<n) (hp:qa F lead.length c≠0):RrI m n (c+1) (JB F n lead.length c) (lead++[c]):=by
 have hkF:lead.length<F.length:=by rw [h.len];exact hk
 have hl:=Qi h.rect hkF;have hRs:QD n (F.set lead.length (ZH (F.getD lead.length []) (qa F lead.length c) n)):=Y0 h.rect (by rw [Yw,hl]);have hat : ∀i j,i<m->j<n->qa (JB F n lead.length c) i j=if i=lead.length then qa F lead.length j/qa F lead.length c else qa F i j-qa F i c*(qa F lead.length j/qa F lead.length c):=λi j hi hj=>Kop h.rect hkF (by rw [h.len];exact hi) hj
 have hln : ∀t,t<lead.length->(lead++[c]).getD t 0=lead.getD t 0:=λt ht=>by
  rw [List.getD_eq_getElem?_getD,List.getElem?_append_left ht,List.getD_eq_getElem?_getD]
 have hlc:(lead++[c]).getD lead.length 0=c:=by
  rw [List.getD_eq_getElem?_getD,List.getElem?_append_right (Nat.le_refl _)];simp
 have hpj : ∀j,j<c->qa F lead.length j=0:=λj hj=>h.zero _ (Nat.le_refl _) hk j hj
 refine ⟨Yz hRs,by unfold JB;rw [QQ,List.length_set,h.len],by simp;omega,λt ht => ?_,λt u htu hu => ?_,λt ht i hi => ?_,λi h1 h2 j hj => ?_⟩
 ·rcases Nat.lt_or_ge t lead.length with h3 | h3
  ·rw [hln t h3];have:=h.lt t h3;omega
  ·obtain rfl:t=lead.length:=by simp at ht;omega
   rw [hlc];omega
 ·rw [List.length_append,List.length_singleton] at hu;rw [hln t (by omega)]
  rcases Nat.lt_or_ge u lead.length with h3 | h3
  ·rw [hln u h3];exact h.inc t u htu h3
  ·obtain rfl:u=lead.length:=by omega
   rw [hlc];exact h.lt t (by omega)
 ·rcases Nat.lt_or_ge t lead.length with h3 | h3
  ·have hlt:=h.lt t h3;rw [hln t h3,hat i _ hi (by omega),hpj _ hlt];have hu:=h.unit t h3
   by_cases e:i=lead.length
   ·rw [if_pos e,if_neg (by omega)];grind
   ·rw [if_neg e,hu i hi];grind
  ·obtain rfl:t=lead.length:=by simp at ht;omega
   rw [hlc,hat i c hi hc]
   by_cases e:i=lead.length
   ·rw [if_pos e,if_pos e];grind
   ·rw [if_neg e,if_neg e];grind
 ·rw [List.length_append,List.length_singleton] at h1;have e:i≠lead.length:=by omega
  rw [hat i j h2 (by omega),if_neg e]
  rcases Nat.lt_or_ge j c with h3 | h3
  ·rw [h.zero i (by omega) h2 j h3,hpj j h3];grind
  ·obtain rfl:j=c:=by omega
   grind
theorem Kfa {F:Mq} {n k c:Nat} (hR:QD n F) (hk:k<F.length) (hp:qa F k c≠0):QX n F (JB F n k c):=by
 unfold JB;refine (Km5 hk hp).trans ?_;have:=Kcm (n:=n) (F:=F.set k (ZH (F.getD k []) (qa F k c) n)) (k:=k) (c:=c) (Y0 hR (by rw [Yw,Qi hR hk])) (by simpa using hk) F.length (by simp);exact this
theorem RrI.swap {m n c:Nat} {F:Mq} {lead:List Nat} (h:RrI m n c F lead) {a:Nat} (ha:lead.length<=a) (ham:a<m):RrI m n c (sw2 F [] lead.length a) lead:=by
 have hk:lead.length<F.length:=by rw [h.len];omega
 have haF:a<F.length:=by rw [h.len];exact ham
 have hrow : ∀i,(sw2 F [] lead.length a).getD i []=if i=a then F.getD lead.length [] else if i=lead.length then F.getD a [] else F.getD i []:=λi=>Xd F [] hk haF i []
 refine ⟨λr hr => ?_,by rw [Qj,h.len],h.le,h.lt,h.inc,λt ht i hi => ?_,λi h1 h2 j hj => ?_⟩
 ·obtain ⟨t,ht,rfl⟩:=List.getElem_of_mem hr;rw [KP F [] hk haF ht];exact h.rect _ (List.getElem_mem _)
 ·unfold qa;rw [hrow];have hu:=h.unit t ht;unfold qa at hu
  by_cases e1:i=a
  ·rw [if_pos e1,if_neg (by omega),hu _ (by omega),if_neg (by omega)]
  ·rw [if_neg e1]
   by_cases e2:i=lead.length
   ·rw [if_pos e2,if_neg (by omega),hu _ ham,if_neg (by omega)]
   ·rw [if_neg e2];exact hu i hi
 ·unfold qa;rw [hrow];have hz:=h.zero;unfold qa at hz;split
  ·exact hz _ (Nat.le_refl _) (by omega) j hj
  ·split
   ·exact hz _ ha ham j hj
   ·exact hz i h1 h2 j hj
theorem Khp {c t:Nat} (h:t<c):(List.range c).getD t 0=t:=by
 rw [List.getD_eq_getElem?_getD,List.getElem?_range h];rfl
theorem RrI.rng {m n c:Nat} {F:Mq} (h:RrI m n c F (List.range c)) {t i:Nat} (ht:t<c) (hi:i<m):qa F i t=if i=t then 1 else 0:=by
 have:=h.unit t (by simpa using ht) i hi;rwa [Khp ht] at this
theorem Kef {f:Nat->Rat} {a b n:Nat} (ha:a<n) (hb:b<n) (hab:a≠b) (h : ∀i,i<n->i≠a->i≠b->f i=0):QW f n=f a+f b:=by
 have h1:=Y6 (λi=>if i=a then f a else 0) (λi=>if i=b then f b else 0) (λi=>(if i=a then f a else 0)+(if i=b then f b else 0)) (λ_=>rfl) n
 rw [QS n (g:=λi=>(if i=a then f a else 0)+(if i=b then f b else 0)) (λi hi=>by
  by_cases e1:i=a
  ·subst e1;rw [if_pos rfl,if_neg hab];grind
  ·by_cases e2:i=b
   ·subst e2;rw [if_neg e1,if_pos rfl];grind
   ·rw [if_neg e1,if_neg e2,h i hi e1 e2];grind),h1,
  Kee n ha (λi _ hne=>by rw [if_neg hne]),Kee n hb (λi _ hne=>by rw [if_neg hne]),if_pos rfl,if_pos rfl]
theorem RrI.must {n c:Nat} {F0 F:Mq} (hnon : ∀y:Nat->Rat,KcE (n+1) F0 y->y n=0 -> ∀j,j<n->y j=0) (h:RrI n (n+1) c F (List.range c)) (hc:c<n) (hS:QX (n+1) F0 F) : ∃k,c<=k/\k<n/\qa F k c≠0:=by
 refine Classical.byContradiction λhno => ?_
 have hz : ∀k,c<=k->k<n->qa F k c=0:=λk h1 h2=>Classical.byContradiction λh3=>hno ⟨k,h1,h2,h3⟩
 have hy:KcE (n+1) F (λj=>if j=c then 1 else if j<c then -qa F j c else 0):=λi hi=>by
  rw [h.len] at hi;show QW (λj=>qa F i j*_) (n+1)=0
  by_cases hic:i<c
  ·rw [Kef (a:=i) (b:=c) (by omega) (by omega) (by omega) (λj hj h1 h2 => ?_)]
   ·rw [if_neg (by omega),if_pos hic,if_pos rfl,h.rng hic hi,if_pos rfl];grind
   ·rw [if_neg h2];split
    ·rename_i h3;rw [h.rng h3 hi,if_neg (λe=>h1 e.symm)];grind
    ·grind
  ·refine Kbr _ λj hj => ?_
   by_cases h2:j=c
   ·subst h2;rw [hz i (by omega) hi];grind
   ·rw [if_neg h2];split
    ·rename_i h3;rw [h.rng h3 hi,if_neg (by omega)];grind
    ·grind
 have h1:=hnon _ ((hS.2 _).2 hy) (by rw [if_neg (by omega),if_neg (by omega)]) c hc;rw [if_pos rfl] at h1;exact absurd h1 (by decide)
theorem RrI.solves {n:Nat} {F0 F:Mq} (h:RrI n (n+1) n F (List.range n)) (hl:F0.length=n) (hS:QX (n+1) F0 F) {i:Nat} (hi:i<n):QW (λj=>qa F0 i j*qa F j n) n=qa F0 i n:=by
 have hy:KcE (n+1) F (λj=>if j=n then -1 else qa F j n):=λt ht=>by
  rw [h.len] at ht;show QW (λj=>qa F t j*_) (n+1)=0;rw [Kef (a:=t) (b:=n) (by omega) (by omega) (by omega) (λj hj h1 h2 => ?_)]
  ·rw [if_neg (by omega),if_pos rfl,h.rng ht ht,if_pos rfl];grind
  ·rw [if_neg h2,h.rng (by omega) ht,if_neg (λe=>h1 e.symm)];grind
 have h1:=(hS.2 _).2 hy i (by omega)
 have h2:JJ (n+1) (F0.getD i []) (λj=>if j=n then -1 else qa F j n)=QW (λj=>qa F0 i j*qa F j n) n+qa F0 i n * -1:=by
  show QW (λj=>qa F0 i j*(if j=n then -1 else qa F j n)) n+qa F0 i n*(if n=n then -1 else qa F n n)=_;rw [if_pos rfl,QS n (g:=λj=>qa F0 i j*qa F j n) (λj hj=>by rw [if_neg (by omega)])]
 rw [h2] at h1
 grind
theorem RrI.free {m n f:Nat} {F:Mq} {lead:List Nat} (h:RrI m n n F lead) (hl:lead.length<=1) (hf:f<n) (hfl : ∀a∈lead,f≠a) :
  ∃y:Nat->Rat,KcE n F y/\y f=1 /\ ∀j,j≠f->(∀a∈lead,j≠a)->y j=0:=by
 match lead,h,hl,hfl with
 | [],h,_,_ =>
  refine ⟨λj=>if j=f then 1 else 0,λi hi => ?_,if_pos rfl,λj hj _=>if_neg hj⟩;rw [h.len] at hi;show QW (λj=>qa F i j*_) n=0;refine Kbr _ λj hj => ?_
  rw [h.zero i (by simp) hi j hj];grind
 | [a],h,_,hfl =>
  have hfa:=hfl a (by simp);have ha:a<n:=h.lt 0 (by simp)
  refine ⟨λj=>if j=f then 1 else if j=a then -qa F 0 f else 0,λi hi => ?_,if_pos rfl,λj hj hja=>by
   show (if j=f then (1:Rat) else if j=a then -qa F 0 f else 0)=0
   rw [if_neg hj,if_neg (hja a (by simp))]⟩
  rw [h.len] at hi;show QW (λj=>qa F i j*_) n=0;rw [Kef (a:=f) (b:=a) hf ha hfa (λj hj h1 h2=>by rw [if_neg h1,if_neg h2];grind)];rw [if_pos rfl,if_neg (Ne.symm hfa),if_pos rfl];have hu:qa F i a=if i=0 then 1 else 0:=h.unit 0 (by simp) i hi
  rw [hu]
  by_cases e:i=0
  ·subst e;rw [if_pos rfl];grind
  ·rw [if_neg e,h.zero i (by simp;omega) hi f hf];grind
 | a::b::l,_,hl,_=>simp at hl
theorem RrI.full {m n:Nat} {F:Mq} {lead:List Nat} (h:RrI m n n F lead) (hm:m+1=n) (hm2:m<=2) (hker : ∀y z:Nat->Rat,KcE n F y->KcE n F z -> ∀i j,i<n->j<n->y i*z j=y j*z i):lead.length=m:=by
 refine Nat.le_antisymm h.le (Nat.not_lt.1 λhlt => ?_);have hl1:lead.length<=1:=by omega
 have hfr : ∃f1 f2,f1<n/\f2<n/\f1≠f2/\(∀a∈lead,f1≠a) /\ ∀a∈lead,f2≠a:=by
  match lead,hl1,hlt with
  | [],_,hlt=>exact ⟨0,1,by simp at hlt;omega,by simp at hlt;omega,by omega,by simp,by simp⟩
  | [a],_,hlt =>
   simp only [List.length_singleton] at hlt;refine ⟨if a=0 then 1 else 0,if a=2 then 1 else 2,?_,?_,?_,?_,?_⟩
   ·split<;>omega
   ·split<;>omega
   ·split<;>split<;>omega
   ·intro b hb;rw [List.mem_singleton.1 hb];split<;>omega
   ·intro b hb;rw [List.mem_singleton.1 hb];split<;>omega
  | a::b::l,hl,_=>simp at hl
 obtain ⟨f1,f2,h1,h2,hne,k1,k2⟩:=hfr;obtain ⟨y,y1,y2,y3⟩:=h.free hl1 h1 k1;obtain ⟨z,z1,z2,z3⟩:=h.free hl1 h2 k2;have:=hker y z y1 z1 f1 f2 h1 h2;rw [y2,z2,y3 f2 (Ne.symm hne) k2] at this;have e:(1:Rat)=0:=by grind
 exact absurd e (by decide)
theorem Zv {a b c:Rat} (hc:c≠0) (h:c*a=c*b):a=b:=by
 have h1:c*(a-b)=0:=by grind
 rcases Rat.mul_eq_zero.1 h1 with h2 | h2
 ·exact absurd h2 hc
 ·grind
theorem Kqu {p q y0 y1 z0 z1:Rat} (hp:p≠0\/q≠0) (h1:p*y0+q*y1=0) (h2:p*z0+q*z1=0):y0*z1=y1*z0:=by
 rcases hp with h | h
 ·exact Zv h (by grind)
 ·exact Zv h (by grind)
theorem Kqj {u0 u1 u2 t0 t1 t2 y0 y1 y2:Rat} (h1:u0*y0+u1*y1+u2*y2=0) (h2:t0*y0+t1*y1+t2*y2=0):(u1*t2-u2*t1)*y1=(u2*t0-u0*t2)*y0:=by
 have e1:t2*(u0*y0+u1*y1+u2*y2)=0:=by rw [h1];grind
 have e2:u2*(t0*y0+t1*y1+t2*y2)=0:=by rw [h2];grind
 grind
theorem Kqk {u0 u1 u2 t0 t1 t2 y0 y1 y2:Rat} (h1:u0*y0+u1*y1+u2*y2=0) (h2:t0*y0+t1*y1+t2*y2=0):(u1*t2-u2*t1)*y2=(u0*t1-u1*t0)*y0:=by
 have e1:t1*(u0*y0+u1*y1+u2*y2)=0:=by rw [h1];grind
 have e2:u1*(t0*y0+t1*y1+t2*y2)=0:=by rw [h2];grind
 grind
theorem Koh {v:Nat->Rat} {n:Nat} {y z:Nat->Rat} (hv:v 0≠0) (hy : ∀i,i<n->v 0*y i=v i*y 0) (hz : ∀i,i<n->v 0*z i=v i*z 0) : ∀i j,i<n->j<n->y i*z j=y j*z i:=λi j hi hj=>by
 refine Zv hv (Zv hv ?_);have e1:=hy i hi;have e2:=hz j hj;have e3:=hy j hj;have e4:=hz i hi;have a1:v 0*(v 0*(y i*z j))=(v 0*y i)*(v 0*z j):=by grind
 have a2:v 0*(v 0*(y j*z i))=(v 0*y j)*(v 0*z i):=by grind
 rw [a1,a2,e1,e2,e3,e4]
 grind
theorem Kf6 {a b:List Int} (hl:a.length=b.length) (h : ∀j,j<a.length->a.getD j 0=b.getD j 0):a=b:=by
 apply List.ext_getElem hl;intro i h1 h2;have:=h i h1;rwa [Ka h1,Ka h2] at this
theorem KaS {w:World} {va vb:Value} {a b:List Int} (hA:KQ w va a) (hB:KQ w vb b) (hbig:a.length<=1000000) :
  Calls Tryz.prog 16 #[va,vb] w λe w'=>e = .returned (.bool (decide (a=b)))/\Ext w w':=by
 obtain ⟨sa,ga,oa,ca,rfl,hca,hSa⟩:=hA;obtain ⟨sb,gb,ob,cb,rfl,hcb,hSb⟩:=hB
 by_cases hl:a.length=b.length
 ·obtain ⟨n,hn⟩ : ∃n,n=a.length:=⟨_,rfl⟩
  rw [<-hl];rw [<-hn] at hbig ⊢;have HA:=hid hSa;have HB:=hid hSb;have Hn:=hid hn;have Hm:=hid (hn.trans hl);clear hSa hSb hl hn hca hcb
  go_enter Tryz.func16,Tryz.ntmps16
  go_wp2_with fail
  go_loopw [5] (λidx wr => ∃i:Nat,i<=n/\idx = .int .i64 i/\Hid (∀j,j<i->a.getD j 0=b.getD j 0)/\Ext w wr) (λidx _=>n-(intOf idx).toNat)
  case atStart=>exact ⟨0,by omega,by go_num,hid (λj h=>by omega),Ext.refl _⟩
  case round =>
   obtain ⟨i,hi,rfl,Hz,hE⟩:=hrel;generalize wr=X at *
   by_cases hlt:i<n
   ·have hii:(i:Int)<(n:Int):=by omega
    have c1:=(HA.out.ext hE).cell i (.int .i64 (a[i]'(by rw [<-Hn.out];exact hlt))) (Qh (by rw [<-Hn.out];exact hlt));have c2:=(HB.out.ext hE).cell i (.int .i64 (b[i]'(by rw [<-Hm.out];exact hlt))) (Qh (by rw [<-Hm.out];exact hlt));obtain rfl:=HA.out.addr (by rw [Kv,<-Hn.out];omega);obtain rfl:=HB.out.addr (by rw [Kv,<-Hm.out];omega);obtain ⟨x,hx⟩ : ∃x,x=a[i]'(by rw [<-Hn.out];exact hlt):=⟨_,rfl⟩
    obtain ⟨y,hy⟩ : ∃y,y=b[i]'(by rw [<-Hm.out];exact hlt):=⟨_,rfl⟩
    rw [<-hx] at c1;rw [<-hy] at c2;have Hx:=hid (show a.getD i 0=x by rw [hx,Ka (by rw [<-Hn.out];exact hlt)]);have Hy:=hid (show b.getD i 0=y by rw [hy,Ka (by rw [<-Hm.out];exact hlt)]);clear hx hy
    by_cases hxy:x=y
    ·subst hxy;go_wp2_with fail
     go_quiet (fail)
     go_wp2_with fail;go_roundw
     case rel=>exact ⟨i+1,by omega,by go_num,hid (λj hj=>by
      by_cases e:j=i
      ·subst e;rw [Hx.out,Hy.out]
      ·exact Hz.out j (by omega)),hE.drewN _⟩
     case measure=>simp [intOf]<;>omega
    ·have hb1:(x==y)=false:=beq_eq_false_iff_ne.2 hxy;have hb2:(x != y)=true:=by simp [bne,hb1]
     have Hne:=hid (show decide (a=b)=false from decide_eq_false (λe=>hxy (by rw [<-Hx.out,<-Hy.out,e])));go_wp2_with fail
     go_quiet (fail)
     go_wp2_with fail;go_ret;exact ⟨by rw [Hne.out];rfl,hE.drewN _⟩
   ·have Heq:=hid (show decide (a=b)=true from decide_eq_true (Kf6 (by rw [<-Hn.out,<-Hm.out]) (λj hj=>Hz.out j (by rw [<-Hn.out] at hj;omega))));go_wp2_with fail;go_ret;exact ⟨by rw [Heq.out];rfl,hE⟩
 ·have hne:decide (a=b)=false:=decide_eq_false (λe=>hl (by rw [e]));rw [hne];have h1 : ¬((a.length:Int)=(b.length:Int)):=by omega
  have h2:((a.length:Int)==(b.length:Int))=false:=beq_eq_false_iff_ne.2 h1;have h3:((a.length:Int) != (b.length:Int))=true:=by simp [bne,h2]
  clear hSa hSb hca hcb hne;generalize a.length=n at *;generalize b.length=m at *
  go_enter Tryz.func16,Tryz.ntmps16
  go_wp2_with fail;go_ret;exact ⟨rfl,Ext.refl _⟩
end
end Go.Proofs.YtmhfccigejcphaaGreatDoor
