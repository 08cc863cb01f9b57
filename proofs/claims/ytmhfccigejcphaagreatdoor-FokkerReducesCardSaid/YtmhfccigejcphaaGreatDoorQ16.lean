/- Part 16 of the proof of the claim: contracts of the functions that it reaches, and plain laws; no condition. -/
import Derived.Test.YtmhfccigejcphaaGreatDoorQ10
import Derived.Test.YtmhfccigejcphaaGreatDoorQ11
set_option maxRecDepth 100000
set_option maxHeartbeats 20000000
namespace Go.Proofs.YtmhfccigejcphaaGreatDoor
section
open Hnf (V Ko Ech Red)
theorem Kg9 {M:List V} {f:V->Int} (h0:f (λ_=>0)=0) (h1 : ∀v q u,f (Hnf.sub v q u)=f v-q*f u) (h : ∀r∈M,f r=0) {v:V} (hv:Ko M v):f v=0:=by
 induction hv with
 | zero=>exact h0
 | step q _ hr ih=>rw [h1,ih,h _ hr];simp
theorem Xt {M:List V} {f:V->Int} (h0:f (λ_=>0)=0) (h1 : ∀v q u,f (Hnf.sub v q u)=f v-q*f u) {v:V} (hv:Ko M v) (hne:f v≠0) : ∃r∈M,f r≠0 :=
 Classical.byContradiction λhc=>hne (Kg9 h0 h1 (λr hr=>Classical.byContradiction λh=>hc ⟨r,hr,h⟩) hv)
def Qo (x y:V) (p q:Nat):Int:=x p*y q-x q*y p
def Qm (x y z:V) (p q s:Nat):Int:=x p*Qo y z q s-x q*Qo y z p s+x s*Qo y z p q
def Xx (x y z t:V) (p q s u:Nat):Int:=x p*Qm y z t q s u-x q*Qm y z t p s u+x s*Qm y z t p q u-x u*Qm y z t p q s
def KcH (a:Nat->Int) (w:Nat->V):Nat->V
 | 0=>λ_=>0
 | k+1=>Hnf.sub (KcH a w k) (-(a k)) (w k)
theorem KeW {M:List V} {a:Nat->Int} {w:Nat->V} : ∀{r:Nat},(∀k,k<r->Ko M (w k))->Ko M (KcH a w r)
 | 0,_ => .zero
 | r+1,h=>(KeW (r:=r) λk hk=>h k (by omega)).sub _ (h r (by omega))
theorem KgE {a:Nat->Int} {w:Nat->V} {j:Nat} : ∀{r:Nat},(∀k,k<r->w k j=0)->KcH a w r j=0
 | 0,_=>rfl
 | r+1,h=>by simp only [KcH,Hnf.sub];rw [KgE (r:=r) (λk hk=>h k (by omega)),h r (by omega)];simp
theorem Kjm {a:Nat->Int} {w:Nat->V} {j s:Nat} {d:Int} : ∀{r:Nat},s<r->(∀k,k<r->w k j=if k=s then d else 0)->KcH a w r j=a s*d
 | 0,hs,_=>by omega
 | r+1,hs,h=>by
  simp only [KcH,Hnf.sub]
  by_cases e:s=r
  ·subst e;rw [KgE (r:=s) (λk hk=>by rw [h k (by omega),if_neg (by omega)]),h s (by omega),if_pos rfl];simp [Int.neg_mul]
  ·rw [Kjm (r:=r) (s:=s) (d:=d) (by omega) (λk hk=>h k (by omega)),h r (by omega),if_neg (by omega)];simp
theorem KgD {a:Nat->Int} {w:Nat->V} {j A C:Nat} : ∀{r:Nat},(∀k,k<r->(a k).natAbs<=A)->(∀k,k<r->(w k j).natAbs<=C)->(KcH a w r j).natAbs<=r*(A*C)
 | 0,_,_=>by simp [KcH]
 | r+1,h,h'=>by
  have ih:=KgD (r:=r) (j:=j) (λk hk=>h k (by omega)) (λk hk=>h' k (by omega));have h2:(a r*w r j).natAbs<=A*C:=by rw [Int.natAbs_mul];exact Nat.mul_le_mul (h r (by omega)) (h' r (by omega))
  have e:(r+1)*(A*C)=r*(A*C)+A*C:=Nat.succ_mul _ _;simp only [KcH,Hnf.sub,Int.neg_mul];omega
structure Kat (M:List V) (ps:List Nat) (r C:Nat) (d:Int) (w:Nat->V):Prop where
 ne:d≠0
 span : ∀k,k<r->Ko M (w k)
 at' : ∀k,k<r -> ∀s,s<r->w k (ps.getD s 0)=if k=s then d else 0
 abs : ∀k,k<r -> ∀j,(w k j).natAbs<=C
theorem Kgh {ps:List Nat} {F:Mx} (hl:ps.length=F.length) {g:Nat×V} (hg:g∈wps ps F) : ∃i,i<F.length/\g=(ps.getD i 0,vr (F.getD i [])):=by
 obtain ⟨x,hx,rfl⟩:=List.mem_map.1 hg;obtain ⟨i,hi,hxe⟩:=List.getElem_of_mem hx;have hi':i<ps.length/\i<F.length:=by simp at hi;omega
 obtain rfl:x=(ps[i]'hi'.1,F[i]'hi'.2):=by rw [<-hxe];exact List.getElem_zip
 exact ⟨i,hi'.2,by rw [Ka hi'.1,Ka hi'.2]⟩
theorem Khl {n:Nat} {ps:List Nat} {F:Mx} (h:IsH n ps F) {v:V} (hv:Ko (KC F) v) (hz : ∀i,i<F.length->v (ps.getD i 0)=0) : ∀j,v j=0:=by
 rcases Hnf.first v with h0 | ⟨j,hj,hz'⟩
 ·exact h0
 ·exfalso;rw [<-Zg h.len] at hv;obtain ⟨g,hg,e,_⟩:=h.ech.lead hv hj hz';obtain ⟨i,hi,rfl⟩:=Kgh h.len hg;exact hj (by rw [<-e];exact hz i hi)
theorem KkR {n:Nat} {ps:List Nat} {F:Mx} (h:IsH n ps F) {v:V} (hv:Ko (KC F) v) {k:Nat} {d:Int} (hd:d≠0) (hk:k<F.length) (hz : ∀s,s<F.length->v (ps.getD s 0)=if k=s then d else 0):eM F k (ps.getD k 0)∣d:=by
 rcases Hnf.first v with h0 | ⟨j,hj,hz'⟩
 ·exact absurd (h0 (ps.getD k 0)) (by rw [hz k hk,if_pos rfl];exact hd)
 ·rw [<-Zg h.len] at hv;obtain ⟨g,hg,e,hdv⟩:=h.ech.lead hv hj hz';obtain ⟨i,hi,rfl⟩:=Kgh h.len hg;simp only at e hdv;subst e;have:=hz i hi
  by_cases e:k=i
  ·subst e;rw [if_pos rfl] at this;rw [this] at hdv;exact hdv
  ·rw [if_neg e] at this;exact absurd this hj
theorem KgK {n C:Nat} {ps:List Nat} {F:Mx} {d:Int} {w:Nat->V} (h:IsH n ps F) (hD:Kat (KC F) ps F.length C d w) (i:Nat) (hi:i<F.length) (j:Nat):(eM F i j).natAbs<=F.length*C:=by
 have hpk : ∀k,k<F.length->(eM F k (ps.getD k 0)).natAbs<=d.natAbs:=λk hk=>by
  obtain ⟨c,hc⟩:=KkR h (hD.span k hk) hD.ne hk (hD.at' k hk);have:=hD.ne;have hc0:c≠0:=by intro e;subst e;simp at hc;exact this hc
  rw [hc,Int.natAbs_mul];exact Nat.le_mul_of_pos_right _ (by omega)
 have hik : ∀k,k<F.length->(eM F i (ps.getD k 0)).natAbs<=d.natAbs:=λk hk=>by
  have:=hpk k hk
  rcases Nat.lt_trichotomy i k with hlt | rfl | hgt
  ·have:=h.red i k hlt hk;omega
  ·exact this
  ·rw [h.left i hi _ (h.inc k i hgt hi)];simp
 have hF:Ko (KC F) (vr (F.getD i [])) := .mem (by rw [Ka hi];exact List.mem_map.2 ⟨F[i],List.getElem_mem hi,rfl⟩)
 have hz:=Khl h (v:=Hnf.sub (Hnf.sub (λ_=>0) (-d) (vr (F.getD i []))) 1 (KcH (λk=>eM F i (ps.getD k 0)) w F.length)) ((Ko.zero.sub (-d) hF).sub 1 (KeW hD.span)) (by
  intro s hs;simp only [Hnf.sub];rw [Kjm (s:=s) (d:=d) hs (λk hk=>hD.at' k hk s hs)];show 0 - -d*eM F i (ps.getD s 0)-1*(eM F i (ps.getD s 0)*d)=0
  grind) j
 have e:d*eM F i j=KcH (λk=>eM F i (ps.getD k 0)) w F.length j:=by
  simp only [Hnf.sub] at hz;have:0 - -d*eM F i j-1*KcH (λk=>eM F i (ps.getD k 0)) w F.length j=0:=hz
  grind
 have hb:=KgD (a:=λk=>eM F i (ps.getD k 0)) (w:=w) (j:=j) (A:=d.natAbs) (C:=C) (r:=F.length) hik (λk hk=>hD.abs k hk j);rw [<-e,Int.natAbs_mul] at hb;have e2:F.length*(d.natAbs*C)=d.natAbs*(F.length*C):=by grind
 rw [e2] at hb;exact Nat.le_of_mul_le_mul_left hb (by have:=hD.ne;omega)
theorem XR {a b:Int} {A B:Nat} (h:a.natAbs<=A) (h':b.natAbs<=B):(a*b).natAbs<=A*B:=by rw [Int.natAbs_mul];exact Nat.mul_le_mul h h'
theorem JG {x y:V} (hx : ∀j,(x j).natAbs<=20) (hy : ∀j,(y j).natAbs<=20) (p q:Nat):(Qo x y p q).natAbs<=800:=by
 have h1:=XR (hx p) (hy q);have h2:=XR (hx q) (hy p);unfold Qo;omega
theorem Yg {x y z:V} (hx : ∀j,(x j).natAbs<=20) (hy : ∀j,(y j).natAbs<=20) (hz : ∀j,(z j).natAbs<=20) (p q s:Nat):(Qm x y z p q s).natAbs<=48000:=by
 have h1:=XR (hx p) (JG hy hz q s);have h2:=XR (hx q) (JG hy hz p s);have h3:=XR (hx s) (JG hy hz p q);unfold Qm;omega
theorem Ka3 {x y z t:V} (hx : ∀j,(x j).natAbs<=20) (hy : ∀j,(y j).natAbs<=20) (hz : ∀j,(z j).natAbs<=20) (ht : ∀j,(t j).natAbs<=20) (p q s u:Nat):(Xx x y z t p q s u).natAbs<=3840000:=by
 have h1:=XR (hx p) (Yg hy hz ht q s u);have h2:=XR (hx q) (Yg hy hz ht p s u);have h3:=XR (hx s) (Yg hy hz ht p q u);have h4:=XR (hx u) (Yg hy hz ht p q s);unfold Xx;omega
theorem KG {M:List V} {v u:V} (h:Ko M v) (e : ∀j,u j=v j):Ko M u:=by rw [show u=v from funext e];exact h
theorem lt2 {s:Nat} (h:s<2):s=0\/s=1:=by omega
theorem lt3 {s:Nat} (h:s<3):s=0\/s=1\/s=2:=by omega
theorem lt4 {s:Nat} (h:s<4):s=0\/s=1\/s=2\/s=3:=by omega
theorem Kpl (M:List V) (ps:List Nat):Kat M ps 0 3840000 1 (λ_ _=>0):=⟨by decide,λk h=>by omega,λk h=>by omega,λk h=>by omega⟩
theorem Kpm {M:List V} {p:Nat} {f:V} (hM : ∀r∈M,∀j,(r j).natAbs<=20) (hf:Ko M f) (h:f p≠0) : ∃d w,Kat M [p] 1 3840000 d w:=by
 obtain ⟨x,hx,hne⟩:=Xt (f:=λv=>v p) rfl (λv q u=>rfl) hf h;refine ⟨x p,λ_=>x,hne,λk _ => .mem hx,λk hk s hs => ?_,λk _ j=>by have:=hM x hx j;omega⟩;obtain rfl:k=0:=by omega
 obtain rfl:s=0:=by omega
 rw [if_pos rfl];rfl
theorem Kpn {M:List V} {p q:Nat} {f g:V} (hM : ∀r∈M,∀j,(r j).natAbs<=20) (hf:Ko M f) (hg:Ko M g) (h:Qo f g p q≠0) : ∃d w,Kat M [p,q] 2 3840000 d w:=by
 obtain ⟨x,hx,h⟩:=Xt (f:=λv=>Qo v g p q) (by simp [Qo]) (λv k u=>by simp only [Qo,Hnf.sub];grind) hf h;obtain ⟨y,hy,h⟩:=Xt (f:=λv=>Qo x v p q) (by simp [Qo]) (λv k u=>by simp only [Qo,Hnf.sub];grind) hg h;have bx:=hM x hx;have bY:=hM y hy;refine ⟨Qo x y p q,λk=>if k=0 then λj=>Qo x y j q else λj=>Qo x y p j,h,λk hk => ?_,λk hk s hs => ?_,λk hk j => ?_⟩
 ·rcases lt2 hk with rfl | rfl
  ·exact KG ((Ko.zero.step (-(y q)) hx).step (x q) hy) λj=>by simp [Qo,Hnf.sub];grind
  ·exact KG ((Ko.zero.step (y p) hx).step (-(x p)) hy) λj=>by simp [Qo,Hnf.sub];grind
 ·rcases lt2 hk with rfl | rfl<;>rcases lt2 hs with rfl | rfl<;>simp [Qo]<;>grind
 ·rcases lt2 hk with rfl | rfl
  ·have:=JG bx bY j q;simp;omega
  ·have:=JG bx bY p j;simp;omega
theorem Kpo {M:List V} {p q s:Nat} {f g e:V} (hM : ∀r∈M,∀j,(r j).natAbs<=20) (hf:Ko M f) (hg:Ko M g) (he:Ko M e) (h:Qm f g e p q s≠0) : ∃d w,Kat M [p,q,s] 3 3840000 d w:=by
 obtain ⟨x,hx,h⟩:=Xt (f:=λv=>Qm v g e p q s) (by simp [Qm]) (λv k u=>by simp only [Qm,Hnf.sub];grind) hf h;obtain ⟨y,hy,h⟩:=Xt (f:=λv=>Qm x v e p q s) (by simp [Qm,Qo]) (λv k u=>by simp only [Qm,Qo,Hnf.sub];grind) hg h;obtain ⟨z,hz,h⟩:=Xt (f:=λv=>Qm x y v p q s) (by simp [Qm,Qo]) (λv k u=>by simp only [Qm,Qo,Hnf.sub];grind) he h;have bx:=hM x hx;have bY:=hM y hy;have bz:=hM z hz;refine ⟨Qm x y z p q s,λk=>if k=0 then λj=>Qm x y z j q s else if k=1 then λj=>Qm x y z p j s else λj=>Qm x y z p q j,h,λk hk => ?_,λk hk t ht => ?_,λk hk j => ?_⟩
 ·rcases lt3 hk with rfl | rfl | rfl
  ·exact KG (((Ko.zero.step (-(Qo y z q s)) hx).step (Qo x z q s) hy).step (-(Qo x y q s)) hz) λj=>by simp [Qm,Qo,Hnf.sub];grind
  ·exact KG (((Ko.zero.step (Qo y z p s) hx).step (-(Qo x z p s)) hy).step (Qo x y p s) hz) λj=>by simp [Qm,Qo,Hnf.sub];grind
  ·exact KG (((Ko.zero.step (-(Qo y z p q)) hx).step (Qo x z p q) hy).step (-(Qo x y p q)) hz) λj=>by simp [Qm,Qo,Hnf.sub];grind
 ·rcases lt3 hk with rfl | rfl | rfl<;>rcases lt3 ht with rfl | rfl | rfl<;>simp [Qm,Qo]<;>grind
 ·rcases lt3 hk with rfl | rfl | rfl
  ·have:=Yg bx bY bz j q s;simp;omega
  ·have:=Yg bx bY bz p j s;simp;omega
  ·have:=Yg bx bY bz p q j;simp;omega
theorem Kpp {M:List V} {p q s t:Nat} {f g e c:V} (hM : ∀r∈M,∀j,(r j).natAbs<=20) (hf:Ko M f) (hg:Ko M g) (he:Ko M e) (hc:Ko M c) (h:Xx f g e c p q s t≠0) : ∃d w,Kat M [p,q,s,t] 4 3840000 d w:=by
 obtain ⟨x,hx,h⟩:=Xt (f:=λv=>Xx v g e c p q s t) (by simp [Xx]) (λv k u=>by simp only [Xx,Hnf.sub];grind) hf h;obtain ⟨y,hy,h⟩:=Xt (f:=λv=>Xx x v e c p q s t) (by simp [Xx,Qm]) (λv k u=>by simp only [Xx,Qm,Hnf.sub];grind) hg h;obtain ⟨z,hz,h⟩:=Xt (f:=λv=>Xx x y v c p q s t) (by simp [Xx,Qm,Qo]) (λv k u=>by simp only [Xx,Qm,Qo,Hnf.sub];grind) he h;obtain ⟨o,ho,h⟩:=Xt (f:=λv=>Xx x y z v p q s t) (by simp [Xx,Qm,Qo]) (λv k u=>by simp only [Xx,Qm,Qo,Hnf.sub];grind) hc h;have bx:=hM x hx;have bY:=hM y hy;have bz:=hM z hz;have bo:=hM o ho;refine ⟨Xx x y z o p q s t,λk=>if k=0 then λj=>Xx x y z o j q s t else if k=1 then λj=>Xx x y z o p j s t else if k=2 then λj=>Xx x y z o p q j t else λj=>Xx x y z o p q s j,h,λk hk => ?_,λk hk i hi => ?_,λk hk j => ?_⟩
 ·rcases lt4 hk with rfl | rfl | rfl | rfl
  ·exact KG ((((Ko.zero.step (-(Qm y z o q s t)) hx).step (Qm x z o q s t) hy).step (-(Qm x y o q s t)) hz).step (Qm x y z q s t) ho) λj=>by simp [Xx,Qm,Qo,Hnf.sub];grind
  ·exact KG ((((Ko.zero.step (Qm y z o p s t) hx).step (-(Qm x z o p s t)) hy).step (Qm x y o p s t) hz).step (-(Qm x y z p s t)) ho) λj=>by simp [Xx,Qm,Qo,Hnf.sub];grind
  ·exact KG ((((Ko.zero.step (-(Qm y z o p q t)) hx).step (Qm x z o p q t) hy).step (-(Qm x y o p q t)) hz).step (Qm x y z p q t) ho) λj=>by simp [Xx,Qm,Qo,Hnf.sub];grind
  ·exact KG ((((Ko.zero.step (Qm y z o p q s) hx).step (-(Qm x z o p q s)) hy).step (Qm x y o p q s) hz).step (-(Qm x y z p q s)) ho) λj=>by simp [Xx,Qm,Qo,Hnf.sub];grind
 ·rcases lt4 hk with rfl | rfl | rfl | rfl<;>rcases lt4 hi with rfl | rfl | rfl | rfl<;>simp [Xx,Qm,Qo]<;>grind
 ·rcases lt4 hk with rfl | rfl | rfl | rfl
  ·have:=Ka3 bx bY bz bo j q s t;simp;omega
  ·have:=Ka3 bx bY bz bo p j s t;simp;omega
  ·have:=Ka3 bx bY bz bo p q j t;simp;omega
  ·have:=Ka3 bx bY bz bo p q s j;simp;omega
theorem Kat.mono {M N:List V} {ps:List Nat} {r C:Nat} {d:Int} {w:Nat->V} (h:Kat M ps r C d w) (hM : ∀v∈M,Ko N v):Kat N ps r C d w:=⟨h.ne,λk hk=>(h.span k hk).trans hM,h.at',h.abs⟩
theorem KbP {a b:Int} (h:0<a) (h':0<b):a*b≠0:=by have:=Int.mul_pos h h';omega
theorem KkA {n:Nat} {M F:Mx} (hn:n<=4) (hM : ∀r∈M,∀z∈r,z.natAbs<=20) (h:Zn n M F) : ∀i,i<F.length -> ∀j,(eM F i j).natAbs<=15360000:=by
 obtain ⟨⟨ps,hF⟩,h1,h2⟩:=h
 have hM' : ∀r∈KC M,∀j,(r j).natAbs<=20:=by
  intro r hr j;obtain ⟨l,hl,rfl⟩:=List.mem_map.1 hr;show (l.getD j 0).natAbs<=20;rw [List.getD_eq_getElem?_getD]
  rcases Nat.lt_or_ge j l.length with hj | hj
  ·rw [List.getElem?_eq_getElem hj];exact hM l hl _ (List.getElem_mem hj)
  ·rw [List.getElem?_eq_none hj];simp
 have hD:F.length<=4 /\ ∃d w,Kat (KC M) ps F.length 3840000 d w:=by
  have hlen:=hF.len
  match F,ps,hF,h1,hlen with
  | [],[],hF,h1,_=>exact ⟨by simp,_,_,Kpl _ _⟩
  | [f],[p],hF,h1,_ =>
   exact ⟨by simp,Kpm hM' (h1 (vr f) (by simp [KC])) (by have:0<vr f p:=hF.pos 0 (by simp);omega)⟩
  | [f,g],[p,q],hF,h1,_ =>
   refine ⟨by simp,Kpn hM' (h1 (vr f) (by simp [KC])) (h1 (vr g) (by simp [KC])) ?_⟩;have a0:0<vr f p:=hF.pos 0 (by simp);have a1:0<vr g q:=hF.pos 1 (by simp);have z1:vr g p=0:=hF.left 1 (by simp) p (hF.inc 0 1 (by omega) (by simp));unfold Qo;rw [z1]
   have:=KbP a0 a1;simpa using this
  | [f,g,e],[p,q,s],hF,h1,_ =>
   refine ⟨by simp,Kpo hM' (h1 (vr f) (by simp [KC])) (h1 (vr g) (by simp [KC])) (h1 (vr e) (by simp [KC])) ?_⟩;have a0:0<vr f p:=hF.pos 0 (by simp);have a1:0<vr g q:=hF.pos 1 (by simp);have a2:0<vr e s:=hF.pos 2 (by simp);have z1:vr g p=0:=hF.left 1 (by simp) p (hF.inc 0 1 (by omega) (by simp));have z2:vr e p=0:=hF.left 2 (by simp) p (hF.inc 0 2 (by omega) (by simp));have z3:vr e q=0:=hF.left 2 (by simp) q (hF.inc 1 2 (by omega) (by simp));simp only [Qm,Qo,z1,z2,z3];have:=KbP a0 (Int.mul_pos a1 a2);simpa using this
  | [f,g,e,c],[p,q,s,t],hF,h1,_ =>
   refine ⟨by simp,Kpp hM' (h1 (vr f) (by simp [KC])) (h1 (vr g) (by simp [KC])) (h1 (vr e) (by simp [KC])) (h1 (vr c) (by simp [KC])) ?_⟩;have a0:0<vr f p:=hF.pos 0 (by simp);have a1:0<vr g q:=hF.pos 1 (by simp);have a2:0<vr e s:=hF.pos 2 (by simp);have a3:0<vr c t:=hF.pos 3 (by simp);have z1:vr g p=0:=hF.left 1 (by simp) p (hF.inc 0 1 (by omega) (by simp));have z2:vr e p=0:=hF.left 2 (by simp) p (hF.inc 0 2 (by omega) (by simp));have z3:vr e q=0:=hF.left 2 (by simp) q (hF.inc 1 2 (by omega) (by simp));have z4:vr c p=0:=hF.left 3 (by simp) p (hF.inc 0 3 (by omega) (by simp));have z5:vr c q=0:=hF.left 3 (by simp) q (hF.inc 1 3 (by omega) (by simp));have z6:vr c s=0:=hF.left 3 (by simp) s (hF.inc 2 3 (by omega) (by simp));simp only [Xx,Qm,Qo,z1,z2,z3,z4,z5,z6];have:=KbP a0 (Int.mul_pos a1 (Int.mul_pos a2 a3));simpa using this
  | _::_::_::_::_::F',p::q::s::t::u::ps',hF,h1,_ =>
   exfalso;have i1:=hF.inc 0 1 (by omega) (by simp);have i2:=hF.inc 1 2 (by omega) (by simp);have i3:=hF.inc 2 3 (by omega) (by simp);have i4:=hF.inc 3 4 (by omega) (by simp);have i5:=hF.lt 4 (by simp);omega
  | [],_::_,hF,h1,hl=>simp at hl
  | [_],[],hF,h1,hl=>simp at hl
  | [_],_::_::_,hF,h1,hl=>simp at hl
  | [_,_],[],hF,h1,hl=>simp at hl
  | [_,_],[_],hF,h1,hl=>simp at hl
  | [_,_],_::_::_::_,hF,h1,hl=>simp at hl
  | [_,_,_],[],hF,h1,hl=>simp at hl
  | [_,_,_],[_],hF,h1,hl=>simp at hl
  | [_,_,_],[_,_],hF,h1,hl=>simp at hl
  | [_,_,_],_::_::_::_::_,hF,h1,hl=>simp at hl
  | _::_::_::_::_,[],hF,h1,hl=>simp at hl
  | _::_::_::_::_,[_],hF,h1,hl=>simp at hl
  | _::_::_::_::_,[_,_],hF,h1,hl=>simp at hl
  | _::_::_::_::_,[_,_,_],hF,h1,hl=>simp at hl
  | _::_::_::_::_::_,[_,_,_,_],hF,h1,hl=>simp at hl
  | [_,_,_,_],_::_::_::_::_::_,hF,h1,hl=>simp at hl
 obtain ⟨hl,d,w,hD⟩:=hD;intro i hi j;have:=KgK hF (hD.mono h2) i hi j;have:F.length*3840000<=4*3840000:=Nat.mul_le_mul_right _ hl;omega
def XD (r x:List Int):Int:=(x.getD (pv r) 0).fdiv (r.getD (pv r) 0)
def Qv:Mx->List Int->List Int
 | [],x=>x
 | r::F,x=>Qv F (QL (XD r x) x r)
def KpV:Mx->List Int->List Int
 | [],_=>[]
 | r::F,x=>XD r x::KpV F (QL (XD r x) x r)
theorem Kfg (r:List Int) : ∀(F:Mx) (x:List Int),Qv (F++[r]) x=QL (XD r (Qv F x)) (Qv F x) r
 | [],x=>rfl
 | f::F,x=>by rw [List.cons_append,Qv,Qv,Kfg r F]
@[simp] theorem YI : ∀(F:Mx) (x:List Int),(Qv F x).length=x.length
 | [],x=>rfl
 | f::F,x=>by rw [Qv,YI F];simp
@[simp] theorem Khs : ∀(F:Mx) (x:List Int),(KpV F x).length=F.length
 | [],x=>rfl
 | f::F,x=>by rw [KpV,List.length_cons,Khs F];rfl
theorem KbY {F:Mx} {i:Nat} (h:i<F.length) (x:List Int):Qv (F.take (i+1)) x=QL (XD (F.getD i []) (Qv (F.take i) x)) (Qv (F.take i) x) (F.getD i []):=by
 rw [Zb h,Kfg,Ka h]
theorem Kft {r x:List Int} (h:r.getD (pv r) 0≠0) {B:Nat} (hB:0<B) (hx : ∀z∈x,z.natAbs<B):(XD r x).natAbs<B:=by
 refine Nat.lt_of_le_of_lt (Zc _ h) ?_;rw [List.getD_eq_getElem?_getD]
 rcases Nat.lt_or_ge (pv r) x.length with hl | hl
 ·rw [List.getElem?_eq_getElem hl];exact hx _ (List.getElem_mem hl)
 ·rw [List.getElem?_eq_none hl];simpa using hB
theorem Kam {n:Nat} : ∀(F:Mx) (x:List Int),Ks n F->x.length=n->Ko (KC F) (Hnf.sub (vr x) 1 (vr (Qv F x)))
 | [],x,_,_=>by
  have e:Hnf.sub (vr x) 1 (vr (Qv [] x))=λ_=>0:=by funext j;simp [Hnf.sub,Qv]
  rw [e];exact .zero
 | r::F,x,hF,hx=>by
  have hr:r.length=n:=hF r (by simp);have ih:=Kam F (QL (XD r x) x r) (λs hs=>hF s (by simp [hs])) (by simp [hx])
  have h2:Ko (KC (r::F)) (Hnf.sub (vr (QL (XD r x) x r)) 1 (vr (Qv F (QL (XD r x) x r)))):=ih.mono λv hv=>by
   simp only [KC,List.map_cons];exact List.mem_cons_of_mem _ hv
  have h3:=h2.step (-(XD r x)) (r:=vr r) (by simp [KC]);refine KG h3 λj => ?_
  rw [Qv,KiW _ (by omega)];simp only [Hnf.sub];grind
theorem Kfe {n:Nat} : ∀(F:Mx) (x:List Int) (j:Nat),Ks n F->x.length=n->(∀r∈F,r.getD j 0=0)->(Qv F x).getD j 0=x.getD j 0
 | [],x,j,_,_,_=>rfl
 | r::F,x,j,hF,hx,hz=>by
  have hr:r.length=n:=hF r (by simp);rw [Qv,Kfe F _ j (λs hs=>hF s (by simp [hs])) (by simp [hx]) (λs hs=>hz s (by simp [hs])),Z8 _ _ _ _ (by omega),hz r (by simp)];simp
theorem KdX {n:Nat} {ps:List Nat} {F:Mx} (h:IsH n ps F) {x:List Int} (hx:x.length=n) (i:Nat) (hi:i<F.length):0<=(Qv F x).getD (ps.getD i 0) 0/\(Qv F x).getD (ps.getD i 0) 0<eM F i (ps.getD i 0):=by
 have e:Qv F x=Qv (F.drop (i+1)) (Qv (F.take (i+1)) x):=by
  have : ∀(A B:Mx) (y:List Int),Qv (A++B) y=Qv B (Qv A y):=by
   intro A
   induction A with
   | nil=>intro B y;rfl
   | cons a A ih=>intro B y;rw [List.cons_append,Qv,Qv,ih]
  rw [<-this,List.take_append_drop]
 have hl1:(Qv (F.take (i+1)) x).length=n:=by simp [hx]
 have hFi:(F.getD i []).length=n:=by rw [Ka hi];exact h.rect _ (List.getElem_mem hi)
 rw [e,Kfe (n:=n) _ _ _ (λs hs=>h.rect s (List.mem_of_mem_drop hs)) hl1 (λr hr => ?_),KbY hi,Z8 _ _ _ _ (by rw [hFi,YI,hx];exact Nat.le_refl _)]
 ·have hpi:ps.getD i 0=pv (F.getD i []):=by rw [Kih h,Yi pv F i hi 0 []]
  rw [hpi];have hpos:=h.pos i hi;rw [hpi] at hpos;exact Kae hpos
 ·obtain ⟨t,ht,rfl⟩:=List.getElem_of_mem hr;rw [List.getElem_drop];have ht':i+1+t<F.length:=by simp at ht;omega
  have:=h.left (i+1+t) ht' (ps.getD i 0) (h.inc i (i+1+t) (by omega) ht');unfold eM at this;rw [Ka ht'] at this;exact this
def Y8 (l:List Int):Prop := ∀z∈l,z=0
theorem Kc4 {l:List Int}:Y8 l ↔ ∀j,vr l j=0:=by
 constructor
 ·intro h j;show l.getD j 0=0;rw [List.getD_eq_getElem?_getD]
  rcases Nat.lt_or_ge j l.length with hj | hj
  ·rw [List.getElem?_eq_getElem hj];exact h _ (List.getElem_mem hj)
  ·rw [List.getElem?_eq_none hj];rfl
 ·intro h z hz;obtain ⟨j,hj,rfl⟩:=List.getElem_of_mem hz;have:=h j;show l[j]=0;rw [<-Ka hj 0];exact this
theorem KkX {n:Nat} {ps:List Nat} {F:Mx} (h:IsH n ps F) {x:List Int} (hx:x.length=n):Y8 (Qv F x)↔Ko (KC F) (vr x):=by
 have hs:=Kam F x h.rect hx;rw [Kc4];constructor
 ·intro hz;refine KG hs λj => ?_
  simp [Hnf.sub,hz j]
 ·intro hv
  have hr:Ko (KC F) (vr (Qv F x)):=by
   refine KG (hv.sub 1 hs) λj => ?_
   simp only [Hnf.sub];omega
  rcases Hnf.first (vr (Qv F x)) with h0 | ⟨j,hj,hz⟩
  ·exact h0
  ·exfalso;rw [<-Zg h.len] at hr;obtain ⟨g,hg,e,hd⟩:=h.ech.lead hr hj hz;obtain ⟨i,hi,rfl⟩:=Kgh h.len hg;simp only at e hd;subst e;have hrg:=KdX h hx i hi;obtain ⟨c,hc⟩:=hd;have hpos:=h.pos i hi;have hc':(Qv F x).getD (ps.getD i 0) 0=eM F i (ps.getD i 0)*c:=hc;have hj':(Qv F x).getD (ps.getD i 0) 0≠0:=hj;have hlt:(eM F i (ps.getD i 0)*c).natAbs<(eM F i (ps.getD i 0)).natAbs:=by rw [<-hc'];omega
   rw [Int.natAbs_mul] at hlt
   have hc0:c.natAbs=0:=by
    rcases Nat.eq_zero_or_pos c.natAbs with h | h
    ·exact h
    ·have:=Nat.mul_le_mul_left (eM F i (ps.getD i 0)).natAbs h;omega
   have hcz:c=0:=by omega
   rw [hcz,Int.mul_zero] at hc';exact hj' hc'
def ln1 (M:Mx):List Ln:=M.map λr=>(r,[])
@[simp] theorem KdG (M:Mx):(ln1 M).length=M.length:=by simp [ln1]
theorem KcX {n:Nat} {M:Mx} (h:Ks n M):Dim n 0 (ln1 M):=by
 intro l hl;obtain ⟨r,hr,rfl⟩:=List.mem_map.1 hl;exact ⟨h r hr,rfl⟩
theorem Koj (M:Mx):Kar (ln1 M)=KC M:=by simp [Kar,KC,ln1,Function.comp_def]
theorem Ka7 {n d:Nat} {ps:List Nat} {M:Mx} {ls:List Ln} (hM:Ks n M) (ho:Ops 0 (ln1 M) ls) (h:QC n d ps ls):Zn n M (Q6 d ls):=by
 have hd0:=KcX hM;have hd:=hd0.ops ho;have hl:=ho.lat hd0;rw [Koj] at hl;have hf:=h.lat hd;exact ⟨⟨ps,h.isH hd⟩,λv hv=>hl.1 v (hf.1 v hv),λv hv=>(hl.2 v hv).trans hf.2⟩
theorem QC.full {c c' d:Nat} {ps:List Nat} {ls:List Ln} (h:QC c d ps ls) (hd:d=ls.length) (hc:c<=c'):QC c' d ps ls :=
 ⟨h.len,h.le,λi hi=>by have:=h.lt i hi;omega,h.inc,h.left,h.pos,h.red,λi h1 h2=>by omega⟩
def KE (f:Nat->Int):Nat->Int
 | 0=>0
 | n+1=>KE f n+f n
theorem QT {f g:Nat->Int} : ∀{n},(∀i,i<n->f i=g i)->KE f n=KE g n
 | 0,_=>rfl
 | n+1,h=>by rw [KE,KE,QT (λi hi=>h i (by omega)),h n (by omega)]
theorem Ya {f:Nat->Int} : ∀{n},(∀i,i<n->f i=0)->KE f n=0
 | 0,_=>rfl
 | n+1,h=>by rw [KE,Ya (λi hi=>h i (by omega)),h n (by omega)];rfl
theorem Keh (f g:Nat->Int) : ∀n,KE (λi=>f i-g i) n=KE f n-KE g n
 | 0=>rfl
 | n+1=>by rw [KE,KE,KE,Keh f g n];omega
theorem Keg (q:Int) (f:Nat->Int) : ∀n,KE (λi=>q*f i) n=q*KE f n
 | 0=>by simp [KE]
 | n+1=>by rw [KE,KE,Keg q f n,Int.mul_add]
theorem Kbs {f:Nat->Int} {k:Nat} : ∀{n},k<n->(∀i,i<n->i≠k->f i=0)->KE f n=f k
 | 0,h,_=>by omega
 | n+1,h,hz=>by
  rw [KE]
  by_cases e:k=n
  ·subst e;rw [Ya (λi hi=>hz i (by omega) (by omega))];omega
  ·rw [Kbs (n:=n) (by omega) (λi hi=>hz i (by omega)),hz n (by omega) (Ne.symm e)];omega
def cmb (M:Mx) (y:V):V:=λj=>KE (λi=>y i*eM M i j) M.length
theorem KcQ (M:Mx) (y z:V) (q:Int) (j:Nat):cmb M (Hnf.sub y q z) j=cmb M y j-q*cmb M z j:=by
 unfold cmb;rw [<-Keg,<-Keh];exact QT λi _=>by simp only [Hnf.sub];grind
theorem Kdg (M:Mx) (j:Nat):cmb M (λ_=>0) j=0:=Ya λi _=>by simp
def KU (M:Mx):Mx:=M.mapIdx λi r=>r++KL M.length i
@[simp] theorem Kge (M:Mx):(KU M).length=M.length:=by simp [KU]
theorem Yb {M:Mx} {i:Nat} (h:i<M.length):(KU M)[i]'(by simpa using h)=M[i]++KL M.length i:=by simp [KU]
theorem Ket {c:Nat} {M:Mx} (h:Ks c M):Ks (c+M.length) (KU M):=by
 intro r hr;obtain ⟨i,hi,rfl⟩:=List.getElem_of_mem hr;rw [Yb (by simpa using hi),List.length_append,h _ (List.getElem_mem _)];simp [KL]
theorem Keo (m i j:Nat):(KL m i).getD j 0=if j=i/\i<m then 1 else 0:=by
 unfold KL;rw [List.getD_eq_getElem?_getD,List.getElem?_set]
 by_cases e:i=j
 ·subst e
  by_cases h:i<m
  ·simp [h]
  ·simp [h]
 ·rw [if_neg e,if_neg (by omega),List.getElem?_replicate];split<;>rfl
theorem Kbz {c:Nat} {M:Mx} (hR:Ks c M) {i:Nat} (h:i<M.length) (j:Nat):vr ((KU M)[i]'(by simpa using h)) j=if j<c then eM M i j else if j=c+i then 1 else 0:=by
 have hl:M[i].length=c:=hR _ (List.getElem_mem h);rw [Yb h];unfold vr eM;rw [Ka h];simp only [List.getD_eq_getElem?_getD]
 by_cases hj:j<c
 ·rw [if_pos hj,List.getElem?_append_left (by omega)]
 ·rw [if_neg hj,List.getElem?_append_right (by omega),<-List.getD_eq_getElem?_getD,Keo,hl]
  by_cases e:j=c+i
  ·rw [if_pos e,if_pos (by omega)]
  ·rw [if_neg e,if_neg (by omega)]
theorem Kl4 {c:Nat} {M:Mx} (hR:Ks c M) {i j:Nat} (hj:c<=j):eM M i j=0:=by
 unfold eM
 rcases Nat.lt_or_ge i M.length with hi | hi
 ·rw [Ka hi,List.getD_eq_getElem?_getD,List.getElem?_eq_none (by rw [hR _ (List.getElem_mem hi)];exact hj)];rfl
 ·simp only [List.getD_eq_getElem?_getD];rw [List.getElem?_eq_none hi];rfl
theorem Kjp {M:Mx} {i:Nat} (h:i<M.length) (j:Nat):eM M i j=vr M[i] j:=by unfold eM vr;rw [Ka h]
theorem Kcf {c:Nat} {M:Mx} (hR:Ks c M) {v:V} (h:Ko (KC (KU M)) v):(∀j,j<c->v j=cmb M (λi=>v (c+i)) j) /\ ∀j,c+M.length<=j->v j=0:=by
 induction h with
 | zero=>exact ⟨λj _=>(Kdg M j).symm,λ_ _=>rfl⟩
 | @step v r q _ hr ih =>
  obtain ⟨x,hx,rfl⟩:=List.mem_map.1 hr;obtain ⟨i,hi,rfl⟩:=List.getElem_of_mem hx;have hi':i<M.length:=by simpa using hi
  refine ⟨λj hj => ?_,λj hj => ?_⟩
  ·have e:(λk=>Hnf.sub v q (vr (KU M)[i]) (c+k))=Hnf.sub (λk=>v (c+k)) q (λk=>if k=i then 1 else 0):=by
    funext k
    simp only [Hnf.sub,Kbz hR hi'];rw [if_neg (by omega)]
    by_cases e:k=i
    ·rw [if_pos (by omega),if_pos e]
    ·rw [if_neg (by omega),if_neg e]
   rw [e,KcQ]
   have e2:cmb M (λk=>if k=i then 1 else 0) j=eM M i j:=by
    unfold cmb;rw [Kbs (k:=i) hi' (λt _ ht=>by simp only [if_neg ht];simp)];simp
   rw [e2];simp only [Hnf.sub,Kbz hR hi',if_pos hj,<-ih.1 j hj]
  ·simp only [Hnf.sub,Kbz hR hi',ih.2 j hj];rw [if_neg (by omega),if_neg (by omega)];simp
theorem Kd6 {M:List V} {f:Nat->V} (y:V) : ∀{n:Nat},(∀i,i<n->Ko M (f i))->Ko M (λj=>KE (λi=>y i*f i j) n)
 | 0,_ => .zero
 | n+1,h=>by
  have h1:=Kd6 y (n:=n) (λi hi=>h i (by omega));refine KG (h1.sub (-(y n)) (h n (by omega))) λj => ?_
  simp only [Hnf.sub,KE];grind
theorem Kk5 {c:Nat} {M:Mx} (hR:Ks c M) {v:V} (h1 : ∀j,j<c->v j=cmb M (λi=>v (c+i)) j) (h2 : ∀j,c+M.length<=j->v j=0):Ko (KC (KU M)) v:=by
 have hs:=Kd6 (M:=KC (KU M)) (f:=λi=>vr ((KU M).getD i [])) (λi=>v (c+i)) (n:=M.length) (λi hi=>by
  rw [Ka (by simpa using hi)];exact .mem (List.mem_map.2 ⟨_,List.getElem_mem _,rfl⟩))
 refine KG hs λj => ?_
 have e : ∀i,i<M.length->v (c+i)*vr ((KU M).getD i []) j=v (c+i)*(if j<c then eM M i j else if j=c+i then 1 else 0):=λi hi=>by
  rw [Ka (by simpa using hi),Kbz hR hi]
 rw [QT e]
 by_cases hj:j<c
 ·rw [h1 j hj];unfold cmb;exact QT λi _=>by rw [if_pos hj]
 ·by_cases hj2:j<c+M.length
  ·rw [Kbs (k:=j-c) (by omega) (λi hi hne=>by rw [if_neg hj,if_neg (by omega)];simp),if_neg hj,if_pos (by omega),show c+(j-c)=j by omega];simp
  ·rw [h2 j (by omega),Ya λi hi=>by rw [if_neg hj,if_neg (by omega)];simp]
theorem Knd {M:Mx} {v:V}:Ko (KC M) v ↔ ∃y,v=cmb M y:=by
 constructor
 ·intro h
  induction h with
  | zero=>exact ⟨λ_=>0,by funext j;exact (Kdg M j).symm⟩
  | @step v r q _ hr ih =>
   obtain ⟨y,rfl⟩:=ih;obtain ⟨x,hx,rfl⟩:=List.mem_map.1 hr;obtain ⟨i,hi,rfl⟩:=List.getElem_of_mem hx;refine ⟨Hnf.sub y q (λk=>if k=i then 1 else 0),?_⟩
   funext j
   rw [KcQ]
   have e2:cmb M (λk=>if k=i then 1 else 0) j=eM M i j:=by
    unfold cmb;rw [Kbs (k:=i) hi (λt _ ht=>by simp only [if_neg ht];simp)];simp
   rw [e2,Kjp hi];rfl
 ·rintro ⟨y,rfl⟩
  have hs:=Kd6 (M:=KC M) (f:=λi=>vr (M.getD i [])) y (n:=M.length) (λi hi=>by
   rw [Ka hi];exact .mem (List.mem_map.2 ⟨_,List.getElem_mem _,rfl⟩))
  exact hs
def upr (c:Nat) (H:Mx):Mx:=H.filter λr=>decide (pv r<c)
def low (c:Nat) (H:Mx):Mx:=H.filter λr => !decide (pv r<c)
def krn (c:Nat) (H:Mx):Mx:=(low c H).map (List.drop c)
theorem Khy (P:Nat->Prop) (hm : ∀i j,i<j -> ¬P i -> ¬P j) : ∀k,∃u,u<=k/\(∀i,i<u->P i) /\ ∀i,u<=i->i<k -> ¬P i
 | 0=>⟨0,by omega,λi h=>by omega,λi _ h=>by omega⟩
 | k+1=>by
  obtain ⟨u,hu,h1,h2⟩:=Khy P hm k
  by_cases hk:P k
  ·have:u=k:=Classical.byContradiction λhne=>hm u k (by omega) (h2 u (Nat.le_refl _) (by omega)) hk
   subst this
   exact ⟨u+1,by omega,λi hi=>by
    rcases Nat.lt_or_ge i u with h | h
    ·exact h1 i h
    ·have:i=u:=by omega
     subst this;exact hk,λi h h'=>by omega⟩
  ·exact ⟨u,by omega,h1,λi hi hik=>by
    by_cases e:i=k
    ·subst e;exact hk
    ·exact h2 i hi (by omega)⟩
theorem JN {α:Type} {p:α->Bool} : ∀{l:List α} {u:Nat},(∀i (h:i<l.length),i<u->p l[i]=true)->(∀i (h:i<l.length),u<=i->p l[i]=false)->l.filter p=l.take u/\l.filter (λa => !p a)=l.drop u
 | [],u,_,_=>by simp
 | a::l,0,_,h2=>by
  have ih:=JN (l:=l) (u:=0) (p:=p) (λi h hi=>by omega) (λi h _=>by have:=h2 (i+1) (by simpa using h) (by omega);simpa using this);have ha:=h2 0 (by simp) (by omega);simp only [List.getElem_cons_zero] at ha;rw [List.filter_cons_of_neg (by simp [ha]),List.filter_cons_of_pos (by simp [ha]),ih.1,ih.2];simp
 | a::l,u+1,h1,h2=>by
  have ih:=JN (l:=l) (u:=u) (p:=p) (λi h hi=>by have:=h1 (i+1) (by simpa using h) (by omega);simpa using this) (λi h hi=>by have:=h2 (i+1) (by simpa using h) (by omega);simpa using this);have ha:=h1 0 (by simp) (by omega);simp only [List.getElem_cons_zero] at ha;rw [List.filter_cons_of_pos ha,List.filter_cons_of_neg (by simp [ha]),ih.1,ih.2];simp
theorem IsH.pvs {n:Nat} {ps:List Nat} {H:Mx} (h:IsH n ps H) {i:Nat} (hi:i<H.length):ps.getD i 0=pv (H.getD i []):=by
 rw [Kih h,Yi pv H i hi 0 []]
theorem IsH.split {n:Nat} {ps:List Nat} {H:Mx} (h:IsH n ps H) (c:Nat) : ∃u,u<=H.length/\upr c H=H.take u/\low c H=H.drop u/\(∀i,i<u->ps.getD i 0<c) /\ ∀i,u<=i->i<H.length->c<=ps.getD i 0:=by
 obtain ⟨u,hu,h1,h2⟩:=Khy (λi=>i<H.length/\ps.getD i 0<c) (λi j hij hn hp=>hn ⟨by omega,by have:=h.inc i j hij hp.1;omega⟩) H.length
 have hf:=JN (p:=λr=>decide (pv r<c)) (l:=H) (u:=u) (λi hi hiu=>by
  have:=(h1 i hiu).2;rw [h.pvs hi,Ka hi] at this
  exact decide_eq_true this) (λi hi hiu=>by
  have:=h2 i hiu hi;refine decide_eq_false λhc=>this ⟨hi,?_⟩
  rw [h.pvs hi,Ka hi];exact hc)
 exact ⟨u,hu,hf.1,hf.2,λi hi=>(h1 i hi).2,λi hi hl=>Classical.byContradiction λhc=>h2 i hi hl ⟨hl,by omega⟩⟩
theorem Kk8 (k:Int) (c:Nat) : ∀(a b:List Int),b.length<=a.length->(QL k a b).take c=QL k (a.take c) (b.take c):=by
 induction c with
 | zero=>intro a b _;simp [QL]
 | succ c ih =>
  intro a b h
  cases b with
  | nil=>simp [XE]
  | cons y b =>
   cases a with
   | nil=>simp at h
   | cons x a=>simp only [QL,List.take_succ_cons];rw [ih a b (by simpa using h)]
theorem X5 {l:List Int} {c j:Nat} (h:j<c):(l.take c).getD j 0=l.getD j 0:=by
 simp only [List.getD_eq_getElem?_getD,List.getElem?_take,if_pos h]
theorem Ke1 (l:List Int) (c j:Nat):(l.drop c).getD j 0=l.getD (c+j) 0:=by
 simp only [List.getD_eq_getElem?_getD,List.getElem?_drop]
theorem Kos {r:List Int} {c:Nat} (h:pv r<c) (hr:pv r<r.length):pv (r.take c)=pv r:=by
 refine (Ko2 (p:=pv r) ?_ λj hj => ?_).1
 ·rw [X5 h];exact Kfb hr
 ·rw [X5 (by omega)];exact Kbi hj
theorem Kff {m c:Nat} : ∀(U:Mx) (l:List Int),Ks m U->l.length=m->(∀r∈U,pv r<c/\pv r<m)->(Qv U l).take c=Qv (U.map (List.take c)) (l.take c)
 | [],l,_,_,_=>rfl
 | r::U,l,hR,hl,hp=>by
  have hr:r.length=m:=hR r (by simp);obtain ⟨p1,p2⟩:=hp r (by simp);rw [Qv,List.map_cons,Qv,Kff U _ (λs hs=>hR s (by simp [hs])) (by simp [hl]) (λs hs=>hp s (by simp [hs])),Kk8 _ _ _ _ (by omega)]
  have e:XD (r.take c) (l.take c)=XD r l:=by
   unfold XD;rw [Kos p1 (by omega),X5 p1,X5 p1]
  rw [e]
theorem Yy {c:Nat} {H:Mx} {i j:Nat} (hj:j<c):eM (H.map (List.take c)) i j=eM H i j:=by
 unfold eM
 rcases Nat.lt_or_ge i H.length with hi | hi
 ·rw [Yi (List.take c) H i hi [] [],X5 hj]
 ·rw [show (H.map (List.take c)).getD i []=[] by rw [List.getD_eq_getElem?_getD,List.getElem?_eq_none (by simpa using hi)];rfl,show H.getD i []=[] by rw [List.getD_eq_getElem?_getD,List.getElem?_eq_none hi];rfl]
theorem Yx {c:Nat} {H:Mx} {i j:Nat}:eM (H.map (List.drop c)) i j=eM H i (c+j):=by
 unfold eM
 rcases Nat.lt_or_ge i H.length with hi | hi
 ·rw [Yi (List.drop c) H i hi [] [],Ke1]
 ·rw [show (H.map (List.drop c)).getD i []=[] by rw [List.getD_eq_getElem?_getD,List.getElem?_eq_none (by simpa using hi)];rfl,show H.getD i []=[] by rw [List.getD_eq_getElem?_getD,List.getElem?_eq_none hi];rfl];rfl
theorem KcS {H:Mx} {u i j:Nat} (h:i<u):eM (H.take u) i j=eM H i j:=by
 unfold eM;simp only [List.getD_eq_getElem?_getD,List.getElem?_take,if_pos h]
theorem KcR {H:Mx} {u i j:Nat}:eM (H.drop u) i j=eM H (u+i) j:=by
 unfold eM;simp only [List.getD_eq_getElem?_getD,List.getElem?_drop]
theorem Xk {l:List Nat} {u i:Nat} (h:i<u):(l.take u).getD i 0=l.getD i 0:=by
 simp only [List.getD_eq_getElem?_getD,List.getElem?_take,if_pos h]
theorem IsH.leftU {n c u:Nat} {ps:List Nat} {H:Mx} (h:IsH n ps H) (hc:c<=n) (hu:u<=H.length) (hp : ∀i,i<u->ps.getD i 0<c):IsH c (ps.take u) ((H.take u).map (List.take c)):=by
 have hl:((H.take u).map (List.take c)).length=u:=by simp;omega
 have hpl:=h.len;refine ⟨λr hr => ?_,by simp;omega,λi hi => ?_,λi k hik hk => ?_,λi hi j hj => ?_,λi hi => ?_,λi k hik hk => ?_⟩
 ·obtain ⟨s,hs,rfl⟩:=List.mem_map.1 hr;rw [List.length_take,h.rect s (List.mem_of_mem_take hs)];omega
 ·rw [Xk (by omega)];exact hp i (by omega)
 ·rw [Xk (by omega),Xk (by omega)];exact h.inc i k hik (by omega)
 ·rw [Xk (by omega)] at hj;have:=hp i (by omega);rw [Yy (by omega),KcS (by omega)];exact h.left i (by omega) j hj
 ·rw [Xk (by omega),Yy (hp i (by omega)),KcS (by omega)];exact h.pos i (by omega)
 ·rw [Xk (by omega),Yy (hp k (by omega)),Yy (hp k (by omega)),KcS (by omega),KcS (by omega)];exact h.red i k hik (by omega)
theorem IsH.rightD {n c m u:Nat} {ps:List Nat} {H:Mx} (h:IsH n ps H) (hn:n=c+m) (hu:u<=H.length) (hp : ∀i,u<=i->i<H.length->c<=ps.getD i 0):IsH m ((ps.drop u).map (λp=>p-c)) ((H.drop u).map (List.drop c)):=by
 have hl:((H.drop u).map (List.drop c)).length=H.length-u:=by simp
 have hpl:=h.len
 have hps : ∀i,i<H.length-u->((ps.drop u).map (λp=>p-c)).getD i 0=ps.getD (u+i) 0-c:=λi hi=>by
  rw [List.getD_eq_getElem?_getD,List.getElem?_map,List.getElem?_drop,List.getElem?_eq_getElem (by omega),Ka (by omega)];rfl
 refine ⟨λr hr => ?_,by simp;omega,λi hi => ?_,λi k hik hk => ?_,λi hi j hj => ?_,λi hi => ?_,λi k hik hk => ?_⟩
 ·obtain ⟨s,hs,rfl⟩:=List.mem_map.1 hr;rw [List.length_drop,h.rect s (List.mem_of_mem_drop hs)];omega
 ·rw [hps i (by omega)];have:=h.lt (u+i) (by omega);have:=hp (u+i) (by omega) (by omega);omega
 ·rw [hps i (by omega),hps k (by omega)];have:=h.inc (u+i) (u+k) (by omega) (by omega);have:=hp (u+i) (by omega) (by omega);omega
 ·rw [hps i (by omega)] at hj;rw [Yx,KcR];exact h.left (u+i) (by omega) _ (by omega)
 ·rw [hps i (by omega),Yx,KcR];have:=hp (u+i) (by omega) (by omega);rw [show c+(ps.getD (u+i) 0-c)=ps.getD (u+i) 0 by omega];exact h.pos (u+i) (by omega)
 ·have:=hp (u+k) (by omega) (by omega);rw [hps k (by omega),Yx,Yx,KcR,KcR,show c+(ps.getD (u+k) 0-c)=ps.getD (u+k) 0 by omega];exact h.red (u+i) (u+k) (by omega) (by omega)
end
end Go.Proofs.YtmhfccigejcphaaGreatDoor
