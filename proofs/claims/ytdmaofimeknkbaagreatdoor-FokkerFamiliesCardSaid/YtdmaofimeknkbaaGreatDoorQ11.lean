/- Part 11 of the proof of the claim: contracts of the functions that it reaches, and plain laws; no condition. -/
import Derived.Test.YtdmaofimeknkbaaGreatDoorQ09
import Derived.Test.YtdmaofimeknkbaaGreatDoorQ10
import Derived.Deep.RegionHeld3
import Derived.Deep.AppendLies
import Derived.Test.YtdmaofimeknkbaaGreatDoorQ08
set_option maxRecDepth 100000
set_option maxHeartbeats 20000000
namespace Go.Proofs.YtdmaofimeknkbaaGreatDoor
section
open Go.RowKit Go.Sort
def KT (w:World) (v:Value) (r:List Int):Prop := ∃sa gb go cap,v = .slice sa r.length cap/\r.length<=cap/\Sl w sa gb go (is r)
def KJ (w:World) (v:Value) (M:Mx):Prop := ∃sa gb go cap vs,v = .slice sa M.length cap/\M.length<=cap/\vs.length=M.length/\Sl w sa gb go vs /\ ∀i (h:i<M.length) (h':i<vs.length),KT w vs[i] M[i]
theorem KT.ext {w w':World} {v:Value} {r:List Int} (h:KT w v r) (he:Ext w w'):KT w' v r:=by
 obtain ⟨sa,gb,go,cap,e,hc,hs⟩:=h;exact ⟨sa,gb,go,cap,e,hc,hs.ext he⟩
theorem KJ.ext {w w':World} {v:Value} {M:Mx} (h:KJ w v M) (he:Ext w w'):KJ w' v M:=by
 obtain ⟨sa,gb,go,cap,vs,e,hc,hl,hs,hr⟩:=h;exact ⟨sa,gb,go,cap,vs,e,hc,hl,hs.ext he,λi a b=>(hr i a b).ext he⟩
def I64 (z:Int):Prop := -9223372036854775808<=z/\z<=9223372036854775807
theorem KJ.row {w:World} {sa:Option Addr} {gb go:Nat} {vs:List Value} {M:Mx} (hS:Sl w sa gb go vs) (hl:vs.length=M.length) (hr : ∀i (h:i<M.length) (h':i<vs.length),KT w vs[i] M[i]) {i:Nat} (hi:i<M.length) :
  ∃sa' gb' go' cap',w.cell? ⟨gb,go+i,none⟩=some (.slice sa' M[i].length cap')/\M[i].length<=cap'/\Sl w sa' gb' go' (is M[i]):=by
 have hi':i<vs.length:=by omega
 obtain ⟨sa',gb',go',cap',e,hc,hs⟩:=hr i hi hi';exact ⟨sa',gb',go',cap',by rw [hS.cell i _ (List.getElem?_eq_getElem hi'),e],hc,hs⟩
def xv (n g cap:Nat):Value:=if n=0 then .slice none 0 0 else slv g n cap
theorem Kko (g cap:Nat):xv 0 g cap = .slice none 0 0:=rfl
theorem Qo {n:Nat} (h:0<n) (g cap:Nat):xv n g cap=slv g n cap:=by unfold xv;rw [if_neg (by omega)]
theorem KU {w w':World} {base:Nat} {e:TypeId} {size n:Nat} {v:Value} {xs:List Value} (h:w.ownsRow base e size v n xs) (he:Ext w w'):w'.ownsRow base e size v n xs :=
 World.ownsRow.kept h (QT he none) (by by_cases hv:v.ownBlock=none;exact .inl hv;exact .inr hv)
end
section
def IxR (p:Nat->Bool) (n:Nat) (k:Int):Prop:=(k = -1 /\ ∀i,i<n->p i=false) \/ ∃i:Nat,i<n/\k=(i:Int)/\p i=true /\ ∀j,j<i->p j=false
theorem KbP (p:Nat->Bool) : ∀n,∃k,IxR p n k
 | 0=>⟨-1,.inl ⟨rfl,λi h=>by omega⟩⟩
 | n+1=>by
  obtain ⟨k,h | ⟨i,hi,e,hp,hj⟩⟩:=KbP p n
  ·cases hn:p n
   ·exact ⟨-1,.inl ⟨rfl,λi hi=>by
     by_cases e:i=n
     ·subst e;exact hn
     ·exact h.2 i (by omega)⟩⟩
   ·exact ⟨n,.inr ⟨n,by omega,rfl,hn,h.2⟩⟩
  ·exact ⟨k,.inr ⟨i,by omega,e,hp,hj⟩⟩
theorem JI {p:Nat->Bool} {n:Nat} {k:Int} (h:IxR p n k) (hp : ∀i,i<n->p i=false):k = -1:=by
 rcases h with h | ⟨i,hi,_,hpi,_⟩
 ·exact h.1
 ·rw [hp i hi] at hpi;cases hpi
theorem JH {p:Nat->Bool} {n i:Nat} {k:Int} (h:IxR p n k) (hi:i<n) (hp:p i=true) (hj : ∀j,j<i->p j=false):k=i:=by
 rcases h with h | ⟨t,ht,e,hpt,hjt⟩
 ·rw [h.2 i hi] at hp;cases hp
 ·rcases Nat.lt_trichotomy i t with h | h | h
  ·rw [hjt i h] at hp;cases hp
  ·rw [e,h]
  ·rw [hj t h] at hpt;cases hpt
def JJ (p:Nat->Bool) (n:Nat):Bool:=(List.range n).any p
theorem JK {p:Nat->Bool} {n:Nat}:JJ p n=true ↔ ∃i,i<n/\p i=true:=by simp [JJ]
theorem Ka5 {p:Nat->Bool} {n:Nat} (h : ∀i,i<n->p i=false):JJ p n=false:=by
 cases hb:JJ p n
 ·rfl
 ·obtain ⟨i,hi,hp⟩:=JK.1 hb;rw [h i hi] at hp;cases hp
theorem Kdm {p:Nat->Bool} {n:Nat} {k:Int} (h:IxR p n k):decide (0<=k)=JJ p n:=by
 rcases h with ⟨rfl,h⟩ | ⟨i,hi,rfl,hp,_⟩
 ·rw [Ka5 h];rfl
 ·rw [JK.2 ⟨i,hi,hp⟩];exact decide_eq_true (by omega)
def pv (r:List Int):Nat:=r.findIdx λz=>decide (z≠0)
def pvI (r:List Int):Int:=if pv r<r.length then (pv r:Int) else -1
theorem Kpu (r:List Int):pv r<=r.length:=List.findIdx_le_length
theorem Kbs {r:List Int} {j:Nat} (h:j<pv r):r.getD j 0=0:=by
 have hl:j<r.length:=Nat.lt_of_lt_of_le h (Kpu r);have:=List.not_of_lt_findIdx (p:=λz:Int=>decide (z≠0)) (xs:=r) h;rw [Ka hl];simpa using this
theorem Kfs {r:List Int} (h:pv r<r.length):r.getD (pv r) 0≠0:=by
 have:=List.findIdx_getElem (xs:=r) (p:=λz:Int=>decide (z≠0)) (w:=h);rw [Ka h];simpa [pv] using this
theorem KiW (r:List Int):IxR (λi=>decide (r.getD i 0≠0)) r.length (pvI r):=by
 unfold pvI
 by_cases h:pv r<r.length
 ·rw [if_pos h];exact .inr ⟨pv r,h,rfl,decide_eq_true (Kfs h),λj hj=>decide_eq_false (by simpa using Kbs hj)⟩
 ·rw [if_neg h];exact .inl ⟨rfl,λi hi=>decide_eq_false (by simpa using Kbs (by omega))⟩
theorem Kpv {r:List Int} {p:Nat} (hp:r.getD p 0≠0) (hz : ∀j,j<p->r.getD j 0=0):pv r=p/\p<r.length:=by
 have hl:p<r.length:=by
  rcases Nat.lt_or_ge p r.length with h | h
  ·exact h
  ·rw [List.getD_eq_getElem?_getD,List.getElem?_eq_none h] at hp;exact absurd rfl hp
 refine ⟨?_,hl⟩
 rcases Nat.lt_trichotomy (pv r) p with h | h | h
 ·exact absurd (hz _ h) (Kfs (by omega))
 ·exact h
 ·exact absurd (Kbs h) hp
theorem Yj {α β:Type} (f:α->β) (l:List α) (i:Nat) (h:i<l.length) (d:β) (e:α):(l.map f).getD i d=f (l.getD i e):=by
 rw [Ka (by simpa using h),Ka h];simp
theorem KiI {n:Nat} {ps:List Nat} {M:Mx} (h:IsH n ps M):ps=M.map pv:=by
 refine List.ext_getElem (by rw [h.len];simp) λi h1 h2 => ?_
 have hi:i<M.length:=by simpa using h2
 have hp:=h.pos i hi;have hl:=h.left i hi;rw [Ka h1] at hp hl;have:=(Kpv (r:=M.getD i []) (p:=ps[i]) (by show eM M i ps[i]≠0;omega) (λj hj=>hl j hj)).1;rw [List.getElem_map,<-this,Ka hi]
theorem Zh {F:Mx} {i:Nat} (h:i<F.length):F.take (i+1)=F.take i++[F[i]]:=List.take_succ_eq_append_getElem h
end
section
open Hnf (V Ko Ech Red)
theorem Khr {M:List V} {f:V->Int} (h0:f (λ_=>0)=0) (h1 : ∀v q u,f (Hnf.sub v q u)=f v-q*f u) (h : ∀r∈M,f r=0) {v:V} (hv:Ko M v):f v=0:=by
 induction hv with
 | zero=>exact h0
 | step q _ hr ih=>rw [h1,ih,h _ hr];simp
theorem Xx {M:List V} {f:V->Int} (h0:f (λ_=>0)=0) (h1 : ∀v q u,f (Hnf.sub v q u)=f v-q*f u) {v:V} (hv:Ko M v) (hne:f v≠0) : ∃r∈M,f r≠0 :=
 Classical.byContradiction λhc=>hne (Khr h0 h1 (λr hr=>Classical.byContradiction λh=>hc ⟨r,hr,h⟩) hv)
def Qp (x y:V) (p q:Nat):Int:=x p*y q-x q*y p
def Qm (x y z:V) (p q s:Nat):Int:=x p*Qp y z q s-x q*Qp y z p s+x s*Qp y z p q
def XA (x y z t:V) (p q s u:Nat):Int:=x p*Qm y z t q s u-x q*Qm y z t p s u+x s*Qm y z t p q u-x u*Qm y z t p q s
def KcW (a:Nat->Int) (w:Nat->V):Nat->V
 | 0=>λ_=>0
 | k+1=>Hnf.sub (KcW a w k) (-(a k)) (w k)
theorem Kfb {M:List V} {a:Nat->Int} {w:Nat->V} : ∀{r:Nat},(∀k,k<r->Ko M (w k))->Ko M (KcW a w r)
 | 0,_ => .zero
 | r+1,h=>(Kfb (r:=r) λk hk=>h k (by omega)).sub _ (h r (by omega))
theorem KgW {a:Nat->Int} {w:Nat->V} {j:Nat} : ∀{r:Nat},(∀k,k<r->w k j=0)->KcW a w r j=0
 | 0,_=>rfl
 | r+1,h=>by simp only [KcW,Hnf.sub];rw [KgW (r:=r) (λk hk=>h k (by omega)),h r (by omega)];simp
theorem KjJ {a:Nat->Int} {w:Nat->V} {j s:Nat} {d:Int} : ∀{r:Nat},s<r->(∀k,k<r->w k j=if k=s then d else 0)->KcW a w r j=a s*d
 | 0,hs,_=>by omega
 | r+1,hs,h=>by
  simp only [KcW,Hnf.sub]
  by_cases e:s=r
  ·subst e;rw [KgW (r:=s) (λk hk=>by rw [h k (by omega),if_neg (by omega)]),h s (by omega),if_pos rfl];simp [Int.neg_mul]
  ·rw [KjJ (r:=r) (s:=s) (d:=d) (by omega) (λk hk=>h k (by omega)),h r (by omega),if_neg (by omega)];simp
theorem KgV {a:Nat->Int} {w:Nat->V} {j A C:Nat} : ∀{r:Nat},(∀k,k<r->(a k).natAbs<=A)->(∀k,k<r->(w k j).natAbs<=C)->(KcW a w r j).natAbs<=r*(A*C)
 | 0,_,_=>by simp [KcW]
 | r+1,h,h'=>by
  have ih:=KgV (r:=r) (j:=j) (λk hk=>h k (by omega)) (λk hk=>h' k (by omega));have h2:(a r*w r j).natAbs<=A*C:=by rw [Int.natAbs_mul];exact Nat.mul_le_mul (h r (by omega)) (h' r (by omega))
  have e:(r+1)*(A*C)=r*(A*C)+A*C:=Nat.succ_mul _ _;simp only [KcW,Hnf.sub,Int.neg_mul];omega
structure KaI (M:List V) (ps:List Nat) (r C:Nat) (d:Int) (w:Nat->V):Prop where
 ne:d≠0
 span : ∀k,k<r->Ko M (w k)
 at' : ∀k,k<r -> ∀s,s<r->w k (ps.getD s 0)=if k=s then d else 0
 abs : ∀k,k<r -> ∀j,(w k j).natAbs<=C
theorem Kgz {ps:List Nat} {F:Mx} (hl:ps.length=F.length) {g:Nat×V} (hg:g∈wps ps F) : ∃i,i<F.length/\g=(ps.getD i 0,vr (F.getD i [])):=by
 obtain ⟨x,hx,rfl⟩:=List.mem_map.1 hg;obtain ⟨i,hi,hxe⟩:=List.getElem_of_mem hx;have hi':i<ps.length/\i<F.length:=by simp at hi;omega
 obtain rfl:x=(ps[i]'hi'.1,F[i]'hi'.2):=by rw [<-hxe];exact List.getElem_zip
 exact ⟨i,hi'.2,by rw [Ka hi'.1,Ka hi'.2]⟩
theorem KhH {n:Nat} {ps:List Nat} {F:Mx} (h:IsH n ps F) {v:V} (hv:Ko (KF F) v) (hz : ∀i,i<F.length->v (ps.getD i 0)=0) : ∀j,v j=0:=by
 rcases Hnf.first v with h0 | ⟨j,hj,hz'⟩
 ·exact h0
 ·exfalso;rw [<-Zl h.len] at hv;obtain ⟨g,hg,e,_⟩:=h.ech.lead hv hj hz';obtain ⟨i,hi,rfl⟩:=Kgz h.len hg;exact hj (by rw [<-e];exact hz i hi)
theorem Klc {n:Nat} {ps:List Nat} {F:Mx} (h:IsH n ps F) {v:V} (hv:Ko (KF F) v) {k:Nat} {d:Int} (hd:d≠0) (hk:k<F.length) (hz : ∀s,s<F.length->v (ps.getD s 0)=if k=s then d else 0):eM F k (ps.getD k 0)∣d:=by
 rcases Hnf.first v with h0 | ⟨j,hj,hz'⟩
 ·exact absurd (h0 (ps.getD k 0)) (by rw [hz k hk,if_pos rfl];exact hd)
 ·rw [<-Zl h.len] at hv;obtain ⟨g,hg,e,hdv⟩:=h.ech.lead hv hj hz';obtain ⟨i,hi,rfl⟩:=Kgz h.len hg;simp only at e hdv;subst e;have:=hz i hi
  by_cases e:k=i
  ·subst e;rw [if_pos rfl] at this;rw [this] at hdv;exact hdv
  ·rw [if_neg e] at this;exact absurd this hj
theorem Kg2 {n C:Nat} {ps:List Nat} {F:Mx} {d:Int} {w:Nat->V} (h:IsH n ps F) (hD:KaI (KF F) ps F.length C d w) (i:Nat) (hi:i<F.length) (j:Nat):(eM F i j).natAbs<=F.length*C:=by
 have hpk : ∀k,k<F.length->(eM F k (ps.getD k 0)).natAbs<=d.natAbs:=λk hk=>by
  obtain ⟨c,hc⟩:=Klc h (hD.span k hk) hD.ne hk (hD.at' k hk);have:=hD.ne;have hc0:c≠0:=by intro e;subst e;simp at hc;exact this hc
  rw [hc,Int.natAbs_mul];exact Nat.le_mul_of_pos_right _ (by omega)
 have hik : ∀k,k<F.length->(eM F i (ps.getD k 0)).natAbs<=d.natAbs:=λk hk=>by
  have:=hpk k hk
  rcases Nat.lt_trichotomy i k with hlt | rfl | hgt
  ·have:=h.red i k hlt hk;omega
  ·exact this
  ·rw [h.left i hi _ (h.inc k i hgt hi)];simp
 have hF:Ko (KF F) (vr (F.getD i [])) := .mem (by rw [Ka hi];exact List.mem_map.2 ⟨F[i],List.getElem_mem hi,rfl⟩)
 have hz:=KhH h (v:=Hnf.sub (Hnf.sub (λ_=>0) (-d) (vr (F.getD i []))) 1 (KcW (λk=>eM F i (ps.getD k 0)) w F.length)) ((Ko.zero.sub (-d) hF).sub 1 (Kfb hD.span)) (by
  intro s hs;simp only [Hnf.sub];rw [KjJ (s:=s) (d:=d) hs (λk hk=>hD.at' k hk s hs)];show 0 - -d*eM F i (ps.getD s 0)-1*(eM F i (ps.getD s 0)*d)=0
  grind) j
 have e:d*eM F i j=KcW (λk=>eM F i (ps.getD k 0)) w F.length j:=by
  simp only [Hnf.sub] at hz;have:0 - -d*eM F i j-1*KcW (λk=>eM F i (ps.getD k 0)) w F.length j=0:=hz
  grind
 have hb:=KgV (a:=λk=>eM F i (ps.getD k 0)) (w:=w) (j:=j) (A:=d.natAbs) (C:=C) (r:=F.length) hik (λk hk=>hD.abs k hk j);rw [<-e,Int.natAbs_mul] at hb;have e2:F.length*(d.natAbs*C)=d.natAbs*(F.length*C):=by grind
 rw [e2] at hb;exact Nat.le_of_mul_le_mul_left hb (by have:=hD.ne;omega)
theorem XV {a b:Int} {A B:Nat} (h:a.natAbs<=A) (h':b.natAbs<=B):(a*b).natAbs<=A*B:=by rw [Int.natAbs_mul];exact Nat.mul_le_mul h h'
theorem JO {x y:V} (hx : ∀j,(x j).natAbs<=20) (hy : ∀j,(y j).natAbs<=20) (p q:Nat):(Qp x y p q).natAbs<=800:=by
 have h1:=XV (hx p) (hy q);have h2:=XV (hx q) (hy p);unfold Qp;omega
theorem Yi {x y z:V} (hx : ∀j,(x j).natAbs<=20) (hy : ∀j,(y j).natAbs<=20) (hz : ∀j,(z j).natAbs<=20) (p q s:Nat):(Qm x y z p q s).natAbs<=48000:=by
 have h1:=XV (hx p) (JO hy hz q s);have h2:=XV (hx q) (JO hy hz p s);have h3:=XV (hx s) (JO hy hz p q);unfold Qm;omega
theorem Kbe {x y z t:V} (hx : ∀j,(x j).natAbs<=20) (hy : ∀j,(y j).natAbs<=20) (hz : ∀j,(z j).natAbs<=20) (ht : ∀j,(t j).natAbs<=20) (p q s u:Nat):(XA x y z t p q s u).natAbs<=3840000:=by
 have h1:=XV (hx p) (Yi hy hz ht q s u);have h2:=XV (hx q) (Yi hy hz ht p s u);have h3:=XV (hx s) (Yi hy hz ht p q u);have h4:=XV (hx u) (Yi hy hz ht p q s);unfold XA;omega
theorem KI {M:List V} {v u:V} (h:Ko M v) (e : ∀j,u j=v j):Ko M u:=by rw [show u=v from funext e];exact h
theorem lt2 {s:Nat} (h:s<2):s=0\/s=1:=by omega
theorem lt3 {s:Nat} (h:s<3):s=0\/s=1\/s=2:=by omega
theorem lt4 {s:Nat} (h:s<4):s=0\/s=1\/s=2\/s=3:=by omega
theorem KpJ (M:List V) (ps:List Nat):KaI M ps 0 3840000 1 (λ_ _=>0):=⟨by decide,λk h=>by omega,λk h=>by omega,λk h=>by omega⟩
theorem KpK {M:List V} {p:Nat} {f:V} (hM : ∀r∈M,∀j,(r j).natAbs<=20) (hf:Ko M f) (h:f p≠0) : ∃d w,KaI M [p] 1 3840000 d w:=by
 obtain ⟨x,hx,hne⟩:=Xx (f:=λv=>v p) rfl (λv q u=>rfl) hf h;refine ⟨x p,λ_=>x,hne,λk _ => .mem hx,λk hk s hs => ?_,λk _ j=>by have:=hM x hx j;omega⟩;obtain rfl:k=0:=by omega
 obtain rfl:s=0:=by omega
 rw [if_pos rfl];rfl
theorem KpL {M:List V} {p q:Nat} {f g:V} (hM : ∀r∈M,∀j,(r j).natAbs<=20) (hf:Ko M f) (hg:Ko M g) (h:Qp f g p q≠0) : ∃d w,KaI M [p,q] 2 3840000 d w:=by
 obtain ⟨x,hx,h⟩:=Xx (f:=λv=>Qp v g p q) (by simp [Qp]) (λv k u=>by simp only [Qp,Hnf.sub];grind) hf h;obtain ⟨y,hy,h⟩:=Xx (f:=λv=>Qp x v p q) (by simp [Qp]) (λv k u=>by simp only [Qp,Hnf.sub];grind) hg h;have bx:=hM x hx;have bY:=hM y hy;refine ⟨Qp x y p q,λk=>if k=0 then λj=>Qp x y j q else λj=>Qp x y p j,h,λk hk => ?_,λk hk s hs => ?_,λk hk j => ?_⟩
 ·rcases lt2 hk with rfl | rfl
  ·exact KI ((Ko.zero.step (-(y q)) hx).step (x q) hy) λj=>by simp [Qp,Hnf.sub];grind
  ·exact KI ((Ko.zero.step (y p) hx).step (-(x p)) hy) λj=>by simp [Qp,Hnf.sub];grind
 ·rcases lt2 hk with rfl | rfl<;>rcases lt2 hs with rfl | rfl<;>simp [Qp]<;>grind
 ·rcases lt2 hk with rfl | rfl
  ·have:=JO bx bY j q;simp;omega
  ·have:=JO bx bY p j;simp;omega
theorem KpM {M:List V} {p q s:Nat} {f g e:V} (hM : ∀r∈M,∀j,(r j).natAbs<=20) (hf:Ko M f) (hg:Ko M g) (he:Ko M e) (h:Qm f g e p q s≠0) : ∃d w,KaI M [p,q,s] 3 3840000 d w:=by
 obtain ⟨x,hx,h⟩:=Xx (f:=λv=>Qm v g e p q s) (by simp [Qm]) (λv k u=>by simp only [Qm,Hnf.sub];grind) hf h;obtain ⟨y,hy,h⟩:=Xx (f:=λv=>Qm x v e p q s) (by simp [Qm,Qp]) (λv k u=>by simp only [Qm,Qp,Hnf.sub];grind) hg h;obtain ⟨z,hz,h⟩:=Xx (f:=λv=>Qm x y v p q s) (by simp [Qm,Qp]) (λv k u=>by simp only [Qm,Qp,Hnf.sub];grind) he h;have bx:=hM x hx;have bY:=hM y hy;have bz:=hM z hz;refine ⟨Qm x y z p q s,λk=>if k=0 then λj=>Qm x y z j q s else if k=1 then λj=>Qm x y z p j s else λj=>Qm x y z p q j,h,λk hk => ?_,λk hk t ht => ?_,λk hk j => ?_⟩
 ·rcases lt3 hk with rfl | rfl | rfl
  ·exact KI (((Ko.zero.step (-(Qp y z q s)) hx).step (Qp x z q s) hy).step (-(Qp x y q s)) hz) λj=>by simp [Qm,Qp,Hnf.sub];grind
  ·exact KI (((Ko.zero.step (Qp y z p s) hx).step (-(Qp x z p s)) hy).step (Qp x y p s) hz) λj=>by simp [Qm,Qp,Hnf.sub];grind
  ·exact KI (((Ko.zero.step (-(Qp y z p q)) hx).step (Qp x z p q) hy).step (-(Qp x y p q)) hz) λj=>by simp [Qm,Qp,Hnf.sub];grind
 ·rcases lt3 hk with rfl | rfl | rfl<;>rcases lt3 ht with rfl | rfl | rfl<;>simp [Qm,Qp]<;>grind
 ·rcases lt3 hk with rfl | rfl | rfl
  ·have:=Yi bx bY bz j q s;simp;omega
  ·have:=Yi bx bY bz p j s;simp;omega
  ·have:=Yi bx bY bz p q j;simp;omega
theorem KpN {M:List V} {p q s t:Nat} {f g e c:V} (hM : ∀r∈M,∀j,(r j).natAbs<=20) (hf:Ko M f) (hg:Ko M g) (he:Ko M e) (hc:Ko M c) (h:XA f g e c p q s t≠0) : ∃d w,KaI M [p,q,s,t] 4 3840000 d w:=by
 obtain ⟨x,hx,h⟩:=Xx (f:=λv=>XA v g e c p q s t) (by simp [XA]) (λv k u=>by simp only [XA,Hnf.sub];grind) hf h;obtain ⟨y,hy,h⟩:=Xx (f:=λv=>XA x v e c p q s t) (by simp [XA,Qm]) (λv k u=>by simp only [XA,Qm,Hnf.sub];grind) hg h;obtain ⟨z,hz,h⟩:=Xx (f:=λv=>XA x y v c p q s t) (by simp [XA,Qm,Qp]) (λv k u=>by simp only [XA,Qm,Qp,Hnf.sub];grind) he h;obtain ⟨o,ho,h⟩:=Xx (f:=λv=>XA x y z v p q s t) (by simp [XA,Qm,Qp]) (λv k u=>by simp only [XA,Qm,Qp,Hnf.sub];grind) hc h;have bx:=hM x hx;have bY:=hM y hy;have bz:=hM z hz;have bo:=hM o ho;refine ⟨XA x y z o p q s t,λk=>if k=0 then λj=>XA x y z o j q s t else if k=1 then λj=>XA x y z o p j s t else if k=2 then λj=>XA x y z o p q j t else λj=>XA x y z o p q s j,h,λk hk => ?_,λk hk i hi => ?_,λk hk j => ?_⟩
 ·rcases lt4 hk with rfl | rfl | rfl | rfl
  ·exact KI ((((Ko.zero.step (-(Qm y z o q s t)) hx).step (Qm x z o q s t) hy).step (-(Qm x y o q s t)) hz).step (Qm x y z q s t) ho) λj=>by simp [XA,Qm,Qp,Hnf.sub];grind
  ·exact KI ((((Ko.zero.step (Qm y z o p s t) hx).step (-(Qm x z o p s t)) hy).step (Qm x y o p s t) hz).step (-(Qm x y z p s t)) ho) λj=>by simp [XA,Qm,Qp,Hnf.sub];grind
  ·exact KI ((((Ko.zero.step (-(Qm y z o p q t)) hx).step (Qm x z o p q t) hy).step (-(Qm x y o p q t)) hz).step (Qm x y z p q t) ho) λj=>by simp [XA,Qm,Qp,Hnf.sub];grind
  ·exact KI ((((Ko.zero.step (Qm y z o p q s) hx).step (-(Qm x z o p q s)) hy).step (Qm x y o p q s) hz).step (-(Qm x y z p q s)) ho) λj=>by simp [XA,Qm,Qp,Hnf.sub];grind
 ·rcases lt4 hk with rfl | rfl | rfl | rfl<;>rcases lt4 hi with rfl | rfl | rfl | rfl<;>simp [XA,Qm,Qp]<;>grind
 ·rcases lt4 hk with rfl | rfl | rfl | rfl
  ·have:=Kbe bx bY bz bo j q s t;simp;omega
  ·have:=Kbe bx bY bz bo p j s t;simp;omega
  ·have:=Kbe bx bY bz bo p q j t;simp;omega
  ·have:=Kbe bx bY bz bo p q s j;simp;omega
theorem KaI.mono {M N:List V} {ps:List Nat} {r C:Nat} {d:Int} {w:Nat->V} (h:KaI M ps r C d w) (hM : ∀v∈M,Ko N v):KaI N ps r C d w:=⟨h.ne,λk hk=>(h.span k hk).trans hM,h.at',h.abs⟩
theorem Kb3 {a b:Int} (h:0<a) (h':0<b):a*b≠0:=by have:=Int.mul_pos h h';omega
theorem KkT {n:Nat} {M F:Mx} (hn:n<=4) (hM : ∀r∈M,∀z∈r,z.natAbs<=20) (h:Zs n M F) : ∀i,i<F.length -> ∀j,(eM F i j).natAbs<=15360000:=by
 obtain ⟨⟨ps,hF⟩,h1,h2⟩:=h
 have hM' : ∀r∈KF M,∀j,(r j).natAbs<=20:=by
  intro r hr j;obtain ⟨l,hl,rfl⟩:=List.mem_map.1 hr;show (l.getD j 0).natAbs<=20;rw [List.getD_eq_getElem?_getD]
  rcases Nat.lt_or_ge j l.length with hj | hj
  ·rw [List.getElem?_eq_getElem hj];exact hM l hl _ (List.getElem_mem hj)
  ·rw [List.getElem?_eq_none hj];simp
 have hD:F.length<=4 /\ ∃d w,KaI (KF M) ps F.length 3840000 d w:=by
  have hlen:=hF.len
  match F,ps,hF,h1,hlen with
  | [],[],hF,h1,_=>exact ⟨by simp,_,_,KpJ _ _⟩
  | [f],[p],hF,h1,_ =>
   exact ⟨by simp,KpK hM' (h1 (vr f) (by simp [KF])) (by have:0<vr f p:=hF.pos 0 (by simp);omega)⟩
  | [f,g],[p,q],hF,h1,_ =>
   refine ⟨by simp,KpL hM' (h1 (vr f) (by simp [KF])) (h1 (vr g) (by simp [KF])) ?_⟩;have a0:0<vr f p:=hF.pos 0 (by simp);have a1:0<vr g q:=hF.pos 1 (by simp);have z1:vr g p=0:=hF.left 1 (by simp) p (hF.inc 0 1 (by omega) (by simp));unfold Qp;rw [z1]
   have:=Kb3 a0 a1;simpa using this
  | [f,g,e],[p,q,s],hF,h1,_ =>
   refine ⟨by simp,KpM hM' (h1 (vr f) (by simp [KF])) (h1 (vr g) (by simp [KF])) (h1 (vr e) (by simp [KF])) ?_⟩;have a0:0<vr f p:=hF.pos 0 (by simp);have a1:0<vr g q:=hF.pos 1 (by simp);have a2:0<vr e s:=hF.pos 2 (by simp);have z1:vr g p=0:=hF.left 1 (by simp) p (hF.inc 0 1 (by omega) (by simp));have z2:vr e p=0:=hF.left 2 (by simp) p (hF.inc 0 2 (by omega) (by simp));have z3:vr e q=0:=hF.left 2 (by simp) q (hF.inc 1 2 (by omega) (by simp));simp only [Qm,Qp,z1,z2,z3];have:=Kb3 a0 (Int.mul_pos a1 a2);simpa using this
  | [f,g,e,c],[p,q,s,t],hF,h1,_ =>
   refine ⟨by simp,KpN hM' (h1 (vr f) (by simp [KF])) (h1 (vr g) (by simp [KF])) (h1 (vr e) (by simp [KF])) (h1 (vr c) (by simp [KF])) ?_⟩;have a0:0<vr f p:=hF.pos 0 (by simp);have a1:0<vr g q:=hF.pos 1 (by simp);have a2:0<vr e s:=hF.pos 2 (by simp);have a3:0<vr c t:=hF.pos 3 (by simp);have z1:vr g p=0:=hF.left 1 (by simp) p (hF.inc 0 1 (by omega) (by simp));have z2:vr e p=0:=hF.left 2 (by simp) p (hF.inc 0 2 (by omega) (by simp));have z3:vr e q=0:=hF.left 2 (by simp) q (hF.inc 1 2 (by omega) (by simp));have z4:vr c p=0:=hF.left 3 (by simp) p (hF.inc 0 3 (by omega) (by simp));have z5:vr c q=0:=hF.left 3 (by simp) q (hF.inc 1 3 (by omega) (by simp));have z6:vr c s=0:=hF.left 3 (by simp) s (hF.inc 2 3 (by omega) (by simp));simp only [XA,Qm,Qp,z1,z2,z3,z4,z5,z6];have:=Kb3 a0 (Int.mul_pos a1 (Int.mul_pos a2 a3));simpa using this
  | _::_::_::_::_::F',p::q::s::t::u::ps',hF,h1,_ =>
   exfalso;have i1:=hF.inc 0 1 (by omega) (by simp);have i2:=hF.inc 1 2 (by omega) (by simp);have i3:=hF.inc 2 3 (by omega) (by simp);have i4:=hF.inc 3 4 (by omega) (by simp);have i5:=hF.lt 4 (by simp);omega
  | [],_::_,hF,h1,hl=>simp at hl
  | [_],[],hF,h1,hl=>simp at hl
  | [_],_::_::_,hF,h1,hl=>simp at hl
  | [_,_],[],hF,h1,hl=>simp at hl
  | [_,_],[_],hF,h1,hl=>simp at hl
  | [_,_],_::_::_::_,hF,h1,hl=>simp at hl
  | [_,_,_],[],hF,h1,hl=>simp at hl
  | [_,_,_],[_],hF,h1,hl=>simp at hl
  | [_,_,_],[_,_],hF,h1,hl=>simp at hl
  | [_,_,_],_::_::_::_::_,hF,h1,hl=>simp at hl
  | _::_::_::_::_,[],hF,h1,hl=>simp at hl
  | _::_::_::_::_,[_],hF,h1,hl=>simp at hl
  | _::_::_::_::_,[_,_],hF,h1,hl=>simp at hl
  | _::_::_::_::_,[_,_,_],hF,h1,hl=>simp at hl
  | _::_::_::_::_::_,[_,_,_,_],hF,h1,hl=>simp at hl
  | [_,_,_,_],_::_::_::_::_::_,hF,h1,hl=>simp at hl
 obtain ⟨hl,d,w,hD⟩:=hD;intro i hi j;have:=Kg2 hF (hD.mono h2) i hi j;have:F.length*3840000<=4*3840000:=Nat.mul_le_mul_right _ hl;omega
def XG (r x:List Int):Int:=(x.getD (pv r) 0).fdiv (r.getD (pv r) 0)
def Qw:Mx->List Int->List Int
 | [],x=>x
 | r::F,x=>Qw F (QR (XG r x) x r)
def Kqq:Mx->List Int->List Int
 | [],_=>[]
 | r::F,x=>XG r x::Kqq F (QR (XG r x) x r)
theorem Kfx (r:List Int) : ∀(F:Mx) (x:List Int),Qw (F++[r]) x=QR (XG r (Qw F x)) (Qw F x) r
 | [],x=>rfl
 | f::F,x=>by rw [List.cons_append,Qw,Qw,Kfx r F]
@[simp] theorem YG : ∀(F:Mx) (x:List Int),(Qw F x).length=x.length
 | [],x=>rfl
 | f::F,x=>by rw [Qw,YG F];simp
@[simp] theorem KhP : ∀(F:Mx) (x:List Int),(Kqq F x).length=F.length
 | [],x=>rfl
 | f::F,x=>by rw [Kqq,List.length_cons,KhP F];rfl
theorem Kcc {F:Mx} {i:Nat} (h:i<F.length) (x:List Int):Qw (F.take (i+1)) x=QR (XG (F.getD i []) (Qw (F.take i) x)) (Qw (F.take i) x) (F.getD i []):=by
 rw [Zh h,Kfx,Ka h]
theorem KfK {r x:List Int} (h:r.getD (pv r) 0≠0) {B:Nat} (hB:0<B) (hx : ∀z∈x,z.natAbs<B):(XG r x).natAbs<B:=by
 refine Nat.lt_of_le_of_lt (Zi _ h) ?_;rw [List.getD_eq_getElem?_getD]
 rcases Nat.lt_or_ge (pv r) x.length with hl | hl
 ·rw [List.getElem?_eq_getElem hl];exact hx _ (List.getElem_mem hl)
 ·rw [List.getElem?_eq_none hl];simpa using hB
theorem KaA {n:Nat} : ∀(F:Mx) (x:List Int),Ku n F->x.length=n->Ko (KF F) (Hnf.sub (vr x) 1 (vr (Qw F x)))
 | [],x,_,_=>by
  have e:Hnf.sub (vr x) 1 (vr (Qw [] x))=λ_=>0:=by funext j;simp [Hnf.sub,Qw]
  rw [e];exact .zero
 | r::F,x,hF,hx=>by
  have hr:r.length=n:=hF r (by simp);have ih:=KaA F (QR (XG r x) x r) (λs hs=>hF s (by simp [hs])) (by simp [hx])
  have h2:Ko (KF (r::F)) (Hnf.sub (vr (QR (XG r x) x r)) 1 (vr (Qw F (QR (XG r x) x r)))):=ih.mono λv hv=>by
   simp only [KF,List.map_cons];exact List.mem_cons_of_mem _ hv
  have h3:=h2.step (-(XG r x)) (r:=vr r) (by simp [KF]);refine KI h3 λj => ?_
  rw [Qw,Kjk _ (by omega)];simp only [Hnf.sub];grind
theorem Kfv {n:Nat} : ∀(F:Mx) (x:List Int) (j:Nat),Ku n F->x.length=n->(∀r∈F,r.getD j 0=0)->(Qw F x).getD j 0=x.getD j 0
 | [],x,j,_,_,_=>rfl
 | r::F,x,j,hF,hx,hz=>by
  have hr:r.length=n:=hF r (by simp);rw [Qw,Kfv F _ j (λs hs=>hF s (by simp [hs])) (by simp [hx]) (λs hs=>hz s (by simp [hs])),Z7 _ _ _ _ (by omega),hz r (by simp)];simp
theorem Kee {n:Nat} {ps:List Nat} {F:Mx} (h:IsH n ps F) {x:List Int} (hx:x.length=n) (i:Nat) (hi:i<F.length):0<=(Qw F x).getD (ps.getD i 0) 0/\(Qw F x).getD (ps.getD i 0) 0<eM F i (ps.getD i 0):=by
 have e:Qw F x=Qw (F.drop (i+1)) (Qw (F.take (i+1)) x):=by
  have : ∀(A B:Mx) (y:List Int),Qw (A++B) y=Qw B (Qw A y):=by
   intro A
   induction A with
   | nil=>intro B y;rfl
   | cons a A ih=>intro B y;rw [List.cons_append,Qw,Qw,ih]
  rw [<-this,List.take_append_drop]
 have hl1:(Qw (F.take (i+1)) x).length=n:=by simp [hx]
 have hFi:(F.getD i []).length=n:=by rw [Ka hi];exact h.rect _ (List.getElem_mem hi)
 rw [e,Kfv (n:=n) _ _ _ (λs hs=>h.rect s (List.mem_of_mem_drop hs)) hl1 (λr hr => ?_),Kcc hi,Z7 _ _ _ _ (by rw [hFi,YG,hx];exact Nat.le_refl _)]
 ·have hpi:ps.getD i 0=pv (F.getD i []):=by rw [KiI h,Yj pv F i hi 0 []]
  rw [hpi];have hpos:=h.pos i hi;rw [hpi] at hpos;exact Kas hpos
 ·obtain ⟨t,ht,rfl⟩:=List.getElem_of_mem hr;rw [List.getElem_drop];have ht':i+1+t<F.length:=by simp at ht;omega
  have:=h.left (i+1+t) ht' (ps.getD i 0) (h.inc i (i+1+t) (by omega) ht');unfold eM at this;rw [Ka ht'] at this;exact this
def Y8 (l:List Int):Prop := ∀z∈l,z=0
theorem Kdk {l:List Int}:Y8 l ↔ ∀j,vr l j=0:=by
 constructor
 ·intro h j;show l.getD j 0=0;rw [List.getD_eq_getElem?_getD]
  rcases Nat.lt_or_ge j l.length with hj | hj
  ·rw [List.getElem?_eq_getElem hj];exact h _ (List.getElem_mem hj)
  ·rw [List.getElem?_eq_none hj];rfl
 ·intro h z hz;obtain ⟨j,hj,rfl⟩:=List.getElem_of_mem hz;have:=h j;show l[j]=0;rw [<-Ka hj 0];exact this
theorem Kli {n:Nat} {ps:List Nat} {F:Mx} (h:IsH n ps F) {x:List Int} (hx:x.length=n):Y8 (Qw F x)↔Ko (KF F) (vr x):=by
 have hs:=KaA F x h.rect hx;rw [Kdk];constructor
 ·intro hz;refine KI hs λj => ?_
  simp [Hnf.sub,hz j]
 ·intro hv
  have hr:Ko (KF F) (vr (Qw F x)):=by
   refine KI (hv.sub 1 hs) λj => ?_
   simp only [Hnf.sub];omega
  rcases Hnf.first (vr (Qw F x)) with h0 | ⟨j,hj,hz⟩
  ·exact h0
  ·exfalso;rw [<-Zl h.len] at hr;obtain ⟨g,hg,e,hd⟩:=h.ech.lead hr hj hz;obtain ⟨i,hi,rfl⟩:=Kgz h.len hg;simp only at e hd;subst e;have hrg:=Kee h hx i hi;obtain ⟨c,hc⟩:=hd;have hpos:=h.pos i hi;have hc':(Qw F x).getD (ps.getD i 0) 0=eM F i (ps.getD i 0)*c:=hc;have hj':(Qw F x).getD (ps.getD i 0) 0≠0:=hj;have hlt:(eM F i (ps.getD i 0)*c).natAbs<(eM F i (ps.getD i 0)).natAbs:=by rw [<-hc'];omega
   rw [Int.natAbs_mul] at hlt
   have hc0:c.natAbs=0:=by
    rcases Nat.eq_zero_or_pos c.natAbs with h | h
    ·exact h
    ·have:=Nat.mul_le_mul_left (eM F i (ps.getD i 0)).natAbs h;omega
   have hcz:c=0:=by omega
   rw [hcz,Int.mul_zero] at hc';exact hj' hc'
end
end Go.Proofs.YtdmaofimeknkbaaGreatDoor
