/- Part 16 of the proof of the claim: contracts of the functions that it reaches, and plain laws; no condition. -/
import Derived.Test.YtmhfccigejcphaaGreatDoorV10
import Derived.Test.YtmhfccigejcphaaGreatDoorV11
set_option maxRecDepth 100000
namespace Go.Proofs.YtmhfccigejcphaaGreatDoor
open Hnf (V Span Ech Red)
theorem lin_zero {M:List V} {f:V→Int} (h0:f (fun _=>0)=0) (h1 : ∀ v q u,f (Hnf.sub v q u)=f v-q*f u) (h : ∀ r∈M,f r=0) {v:V} (hv:Span M v):f v=0:=by
 induction hv with
 | zero=>exact h0
 | step q _ hr ih=>rw [h1,ih,h _ hr]; simp
theorem lin_row {M:List V} {f:V→Int} (h0:f (fun _=>0)=0) (h1 : ∀ v q u,f (Hnf.sub v q u)=f v-q*f u) {v:V} (hv:Span M v) (hne:f v≠0) : ∃ r∈M,f r≠0 :=
 Classical.byContradiction fun hc=>hne (lin_zero h0 h1 (fun r hr=>Classical.byContradiction fun h=>hc ⟨r,hr,h⟩) hv)
def det2 (x y:V) (p q:Nat):Int:=x p*y q-x q*y p
def det3 (x y z:V) (p q s:Nat):Int:=x p*det2 y z q s-x q*det2 y z p s+x s*det2 y z p q
def det4 (x y z t:V) (p q s u:Nat):Int:=x p*det3 y z t q s u-x q*det3 y z t p s u+x s*det3 y z t p q u-x u*det3 y z t p q s
def comb (a:Nat→Int) (w:Nat→V):Nat→V
 | 0=>fun _=>0
 | k+1=>Hnf.sub (comb a w k) (-(a k)) (w k)
theorem comb_span {M:List V} {a:Nat→Int} {w:Nat→V} : ∀ {r:Nat},(∀ k,k<r→Span M (w k))→Span M (comb a w r)
 | 0,_ => .zero
 | r+1,h=>(comb_span (r:=r) fun k hk=>h k (by omega)).sub _ (h r (by omega))
theorem comb_out {a:Nat→Int} {w:Nat→V} {j:Nat} : ∀ {r:Nat},(∀ k,k<r→w k j=0)→comb a w r j=0
 | 0,_=>rfl
 | r+1,h=>by simp only [comb,Hnf.sub]; rw [comb_out (r:=r) (fun k hk=>h k (by omega)),h r (by omega)]; simp
theorem comb_at {a:Nat→Int} {w:Nat→V} {j s:Nat} {d:Int} : ∀ {r:Nat},s<r→(∀ k,k<r→w k j=if k=s then d else 0)→comb a w r j=a s*d
 | 0,hs,_=>by omega
 | r+1,hs,h=>by
  simp only [comb,Hnf.sub]
  by_cases e:s=r
  ·subst e;rw [comb_out (r:=s) (fun k hk=>by rw [h k (by omega),if_neg (by omega)]),h s (by omega),if_pos rfl]; simp [Int.neg_mul]
  ·rw [comb_at (r:=r) (s:=s) (d:=d) (by omega) (fun k hk=>h k (by omega)),h r (by omega),if_neg (by omega)]; simp
theorem comb_abs {a:Nat→Int} {w:Nat→V} {j A C:Nat} : ∀ {r:Nat},(∀ k,k<r→(a k).natAbs≤A)→(∀ k,k<r→(w k j).natAbs≤C)→(comb a w r j).natAbs≤r*(A*C)
 | 0,_,_=>by simp [comb]
 | r+1,h,h'=>by
  have ih:=comb_abs (r:=r) (j:=j) (fun k hk=>h k (by omega)) (fun k hk=>h' k (by omega));have h2:(a r*w r j).natAbs≤A*C:=by rw [Int.natAbs_mul]; exact Nat.mul_le_mul (h r (by omega)) (h' r (by omega))
  have e:(r+1)*(A*C)=r*(A*C)+A*C:=Nat.succ_mul _ _;simp only [comb,Hnf.sub,Int.neg_mul];omega
structure Duals (M:List V) (ps:List Nat) (r C:Nat) (d:Int) (w:Nat→V):Prop where
 ne:d≠0
 span : ∀ k,k<r→Span M (w k)
 at' : ∀ k,k<r → ∀ s,s<r→w k (ps.getD s 0)=if k=s then d else 0
 abs : ∀ k,k<r → ∀ j,(w k j).natAbs≤C
theorem wps_mem {ps:List Nat} {F:Mx} (hl:ps.length=F.length) {g:Nat×V} (hg:g∈wps ps F) : ∃ i,i<F.length∧g=(ps.getD i 0,vr (F.getD i [])):=by
 obtain ⟨x,hx,rfl⟩:=List.mem_map.1 hg;obtain ⟨i,hi,hxe⟩:=List.getElem_of_mem hx;have hi':i<ps.length∧i<F.length:=by simp at hi; omega
 obtain rfl:x=(ps[i]'hi'.1,F[i]'hi'.2):=by rw [← hxe]; exact List.getElem_zip
 exact ⟨i,hi'.2,by rw [getD_get hi'.1,getD_get hi'.2]⟩
theorem pivots_zero {n:Nat} {ps:List Nat} {F:Mx} (h:IsH n ps F) {v:V} (hv:Span (latM F) v) (hz : ∀ i,i<F.length→v (ps.getD i 0)=0) : ∀ j,v j=0:=by
 rcases Hnf.first v with h0 | ⟨j,hj,hz'⟩
 ·exact h0
 ·exfalso;rw [← wps_rows h.len] at hv;obtain ⟨g,hg,e,_⟩:=h.ech.lead hv hj hz';obtain ⟨i,hi,rfl⟩:=wps_mem h.len hg;exact hj (by rw [← e]; exact hz i hi)
theorem pivot_dvd {n:Nat} {ps:List Nat} {F:Mx} (h:IsH n ps F) {v:V} (hv:Span (latM F) v) {k:Nat} {d:Int} (hd:d≠0) (hk:k<F.length) (hz : ∀ s,s<F.length→v (ps.getD s 0)=if k=s then d else 0):eM F k (ps.getD k 0)∣d:=by
 rcases Hnf.first v with h0 | ⟨j,hj,hz'⟩
 ·exact absurd (h0 (ps.getD k 0)) (by rw [hz k hk,if_pos rfl]; exact hd)
 ·rw [← wps_rows h.len] at hv;obtain ⟨g,hg,e,hdv⟩:=h.ech.lead hv hj hz';obtain ⟨i,hi,rfl⟩:=wps_mem h.len hg;simp only at e hdv;subst e;have:=hz i hi
  by_cases e:k=i
  ·subst e;rw [if_pos rfl] at this;rw [this] at hdv;exact hdv
  ·rw [if_neg e] at this; exact absurd this hj
theorem duals_small {n C:Nat} {ps:List Nat} {F:Mx} {d:Int} {w:Nat→V} (h:IsH n ps F) (hD:Duals (latM F) ps F.length C d w) (i:Nat) (hi:i<F.length) (j:Nat):(eM F i j).natAbs≤F.length*C:=by
 have hpk : ∀ k,k<F.length→(eM F k (ps.getD k 0)).natAbs≤d.natAbs:=fun k hk=>by
  obtain ⟨c,hc⟩:=pivot_dvd h (hD.span k hk) hD.ne hk (hD.at' k hk);have:=hD.ne;have hc0:c≠0:=by intro e; subst e; simp at hc; exact this hc
  rw [hc,Int.natAbs_mul];exact Nat.le_mul_of_pos_right _ (by omega)
 have hik : ∀ k,k<F.length→(eM F i (ps.getD k 0)).natAbs≤d.natAbs:=fun k hk=>by
  have:=hpk k hk
  rcases Nat.lt_trichotomy i k with hlt | rfl | hgt
  ·have:=h.red i k hlt hk; omega
  ·exact this
  ·rw [h.left i hi _ (h.inc k i hgt hi)]; simp
 have hF:Span (latM F) (vr (F.getD i [])) := .mem (by rw [getD_get hi]; exact List.mem_map.2 ⟨F[i],List.getElem_mem hi,rfl⟩)
 have hz:=pivots_zero h (v:=Hnf.sub (Hnf.sub (fun _=>0) (-d) (vr (F.getD i []))) 1 (comb (fun k=>eM F i (ps.getD k 0)) w F.length)) ((Span.zero.sub (-d) hF).sub 1 (comb_span hD.span)) (by
  intro s hs;simp only [Hnf.sub];rw [comb_at (s:=s) (d:=d) hs (fun k hk=>hD.at' k hk s hs)];show 0 - -d*eM F i (ps.getD s 0)-1*(eM F i (ps.getD s 0)*d)=0
  grind) j
 have e:d*eM F i j=comb (fun k=>eM F i (ps.getD k 0)) w F.length j:=by
  simp only [Hnf.sub] at hz;have:0 - -d*eM F i j-1*comb (fun k=>eM F i (ps.getD k 0)) w F.length j=0:=hz
  grind
 have hb:=comb_abs (a:=fun k=>eM F i (ps.getD k 0)) (w:=w) (j:=j) (A:=d.natAbs) (C:=C) (r:=F.length) hik (fun k hk=>hD.abs k hk j);rw [← e,Int.natAbs_mul] at hb;have e2:F.length*(d.natAbs*C)=d.natAbs*(F.length*C):=by grind
 rw [e2] at hb;exact Nat.le_of_mul_le_mul_left hb (by have:=hD.ne; omega)
theorem mul_abs {a b:Int} {A B:Nat} (h:a.natAbs≤A) (h':b.natAbs≤B):(a*b).natAbs≤A*B:=by rw [Int.natAbs_mul]; exact Nat.mul_le_mul h h'
theorem det2_abs {x y:V} (hx : ∀ j,(x j).natAbs≤20) (hy : ∀ j,(y j).natAbs≤20) (p q:Nat):(det2 x y p q).natAbs≤800:=by
 have h1:=mul_abs (hx p) (hy q);have h2:=mul_abs (hx q) (hy p);unfold det2; omega
theorem det3_abs {x y z:V} (hx : ∀ j,(x j).natAbs≤20) (hy : ∀ j,(y j).natAbs≤20) (hz : ∀ j,(z j).natAbs≤20) (p q s:Nat):(det3 x y z p q s).natAbs≤48000:=by
 have h1:=mul_abs (hx p) (det2_abs hy hz q s);have h2:=mul_abs (hx q) (det2_abs hy hz p s);have h3:=mul_abs (hx s) (det2_abs hy hz p q);unfold det3; omega
theorem det4_abs {x y z t:V} (hx : ∀ j,(x j).natAbs≤20) (hy : ∀ j,(y j).natAbs≤20) (hz : ∀ j,(z j).natAbs≤20) (ht : ∀ j,(t j).natAbs≤20) (p q s u:Nat):(det4 x y z t p q s u).natAbs≤3840000:=by
 have h1:=mul_abs (hx p) (det3_abs hy hz ht q s u);have h2:=mul_abs (hx q) (det3_abs hy hz ht p s u);have h3:=mul_abs (hx s) (det3_abs hy hz ht p q u);have h4:=mul_abs (hx u) (det3_abs hy hz ht p q s);unfold det4; omega
theorem span_of_eq {M:List V} {v u:V} (h:Span M v) (e : ∀ j,u j=v j):Span M u:=by rw [show u=v from funext e]; exact h
theorem lt2 {s:Nat} (h:s<2):s=0∨s=1:=by omega
theorem lt3 {s:Nat} (h:s<3):s=0∨s=1∨s=2:=by omega
theorem lt4 {s:Nat} (h:s<4):s=0∨s=1∨s=2∨s=3:=by omega
theorem duals0 (M:List V) (ps:List Nat):Duals M ps 0 3840000 1 (fun _ _=>0):=⟨by decide,fun k h=>by omega,fun k h=>by omega,fun k h=>by omega⟩
theorem duals1 {M:List V} {p:Nat} {f:V} (hM : ∀ r∈M,∀ j,(r j).natAbs≤20) (hf:Span M f) (h:f p≠0) : ∃ d w,Duals M [p] 1 3840000 d w:=by
 obtain ⟨x,hx,hne⟩:=lin_row (f:=fun v=>v p) rfl (fun v q u=>rfl) hf h;refine ⟨x p,fun _=>x,hne,fun k _ => .mem hx,fun k hk s hs => ?_,fun k _ j=>by have:=hM x hx j; omega⟩;obtain rfl:k=0:=by omega
 obtain rfl:s=0:=by omega
 rw [if_pos rfl]; rfl
theorem duals2 {M:List V} {p q:Nat} {f g:V} (hM : ∀ r∈M,∀ j,(r j).natAbs≤20) (hf:Span M f) (hg:Span M g) (h:det2 f g p q≠0) : ∃ d w,Duals M [p,q] 2 3840000 d w:=by
 obtain ⟨x,hx,h⟩:=lin_row (f:=fun v=>det2 v g p q) (by simp [det2]) (fun v k u=>by simp only [det2,Hnf.sub]; grind) hf h;obtain ⟨y,hy,h⟩:=lin_row (f:=fun v=>det2 x v p q) (by simp [det2]) (fun v k u=>by simp only [det2,Hnf.sub]; grind) hg h;have bx:=hM x hx;have bY:=hM y hy;refine ⟨det2 x y p q,fun k=>if k=0 then fun j=>det2 x y j q else fun j=>det2 x y p j,h,fun k hk => ?_,fun k hk s hs => ?_,fun k hk j => ?_⟩
 ·rcases lt2 hk with rfl | rfl
  ·exact span_of_eq ((Span.zero.step (-(y q)) hx).step (x q) hy) fun j=>by simp [det2,Hnf.sub]; grind
  ·exact span_of_eq ((Span.zero.step (y p) hx).step (-(x p)) hy) fun j=>by simp [det2,Hnf.sub]; grind
 ·rcases lt2 hk with rfl | rfl <;> rcases lt2 hs with rfl | rfl <;> simp [det2] <;> grind
 ·rcases lt2 hk with rfl | rfl
  ·have:=det2_abs bx bY j q; simp; omega
  ·have:=det2_abs bx bY p j; simp; omega
theorem duals3 {M:List V} {p q s:Nat} {f g e:V} (hM : ∀ r∈M,∀ j,(r j).natAbs≤20) (hf:Span M f) (hg:Span M g) (he:Span M e) (h:det3 f g e p q s≠0) : ∃ d w,Duals M [p,q,s] 3 3840000 d w:=by
 obtain ⟨x,hx,h⟩:=lin_row (f:=fun v=>det3 v g e p q s) (by simp [det3]) (fun v k u=>by simp only [det3,Hnf.sub]; grind) hf h;obtain ⟨y,hy,h⟩:=lin_row (f:=fun v=>det3 x v e p q s) (by simp [det3,det2]) (fun v k u=>by simp only [det3,det2,Hnf.sub]; grind) hg h;obtain ⟨z,hz,h⟩:=lin_row (f:=fun v=>det3 x y v p q s) (by simp [det3,det2]) (fun v k u=>by simp only [det3,det2,Hnf.sub]; grind) he h;have bx:=hM x hx;have bY:=hM y hy;have bz:=hM z hz;refine ⟨det3 x y z p q s,fun k=>if k=0 then fun j=>det3 x y z j q s else if k=1 then fun j=>det3 x y z p j s else fun j=>det3 x y z p q j,h,fun k hk => ?_,fun k hk t ht => ?_,fun k hk j => ?_⟩
 ·rcases lt3 hk with rfl | rfl | rfl
  ·exact span_of_eq (((Span.zero.step (-(det2 y z q s)) hx).step (det2 x z q s) hy).step (-(det2 x y q s)) hz) fun j=>by simp [det3,det2,Hnf.sub]; grind
  ·exact span_of_eq (((Span.zero.step (det2 y z p s) hx).step (-(det2 x z p s)) hy).step (det2 x y p s) hz) fun j=>by simp [det3,det2,Hnf.sub]; grind
  ·exact span_of_eq (((Span.zero.step (-(det2 y z p q)) hx).step (det2 x z p q) hy).step (-(det2 x y p q)) hz) fun j=>by simp [det3,det2,Hnf.sub]; grind
 ·rcases lt3 hk with rfl | rfl | rfl <;> rcases lt3 ht with rfl | rfl | rfl <;> simp [det3,det2] <;> grind
 ·rcases lt3 hk with rfl | rfl | rfl
  ·have:=det3_abs bx bY bz j q s; simp; omega
  ·have:=det3_abs bx bY bz p j s; simp; omega
  ·have:=det3_abs bx bY bz p q j; simp; omega
theorem duals4 {M:List V} {p q s t:Nat} {f g e c:V} (hM : ∀ r∈M,∀ j,(r j).natAbs≤20) (hf:Span M f) (hg:Span M g) (he:Span M e) (hc:Span M c) (h:det4 f g e c p q s t≠0) : ∃ d w,Duals M [p,q,s,t] 4 3840000 d w:=by
 obtain ⟨x,hx,h⟩:=lin_row (f:=fun v=>det4 v g e c p q s t) (by simp [det4]) (fun v k u=>by simp only [det4,Hnf.sub]; grind) hf h;obtain ⟨y,hy,h⟩:=lin_row (f:=fun v=>det4 x v e c p q s t) (by simp [det4,det3]) (fun v k u=>by simp only [det4,det3,Hnf.sub]; grind) hg h;obtain ⟨z,hz,h⟩:=lin_row (f:=fun v=>det4 x y v c p q s t) (by simp [det4,det3,det2]) (fun v k u=>by simp only [det4,det3,det2,Hnf.sub]; grind) he h;obtain ⟨o,ho,h⟩:=lin_row (f:=fun v=>det4 x y z v p q s t) (by simp [det4,det3,det2]) (fun v k u=>by simp only [det4,det3,det2,Hnf.sub]; grind) hc h;have bx:=hM x hx;have bY:=hM y hy;have bz:=hM z hz;have bo:=hM o ho;refine ⟨det4 x y z o p q s t,fun k=>if k=0 then fun j=>det4 x y z o j q s t else if k=1 then fun j=>det4 x y z o p j s t else if k=2 then fun j=>det4 x y z o p q j t else fun j=>det4 x y z o p q s j,h,fun k hk => ?_,fun k hk i hi => ?_,fun k hk j => ?_⟩
 ·rcases lt4 hk with rfl | rfl | rfl | rfl
  ·exact span_of_eq ((((Span.zero.step (-(det3 y z o q s t)) hx).step (det3 x z o q s t) hy).step (-(det3 x y o q s t)) hz).step (det3 x y z q s t) ho) fun j=>by simp [det4,det3,det2,Hnf.sub]; grind
  ·exact span_of_eq ((((Span.zero.step (det3 y z o p s t) hx).step (-(det3 x z o p s t)) hy).step (det3 x y o p s t) hz).step (-(det3 x y z p s t)) ho) fun j=>by simp [det4,det3,det2,Hnf.sub]; grind
  ·exact span_of_eq ((((Span.zero.step (-(det3 y z o p q t)) hx).step (det3 x z o p q t) hy).step (-(det3 x y o p q t)) hz).step (det3 x y z p q t) ho) fun j=>by simp [det4,det3,det2,Hnf.sub]; grind
  ·exact span_of_eq ((((Span.zero.step (det3 y z o p q s) hx).step (-(det3 x z o p q s)) hy).step (det3 x y o p q s) hz).step (-(det3 x y z p q s)) ho) fun j=>by simp [det4,det3,det2,Hnf.sub]; grind
 ·rcases lt4 hk with rfl | rfl | rfl | rfl <;> rcases lt4 hi with rfl | rfl | rfl | rfl <;> simp [det4,det3,det2] <;> grind
 ·rcases lt4 hk with rfl | rfl | rfl | rfl
  ·have:=det4_abs bx bY bz bo j q s t; simp; omega
  ·have:=det4_abs bx bY bz bo p j s t; simp; omega
  ·have:=det4_abs bx bY bz bo p q j t; simp; omega
  ·have:=det4_abs bx bY bz bo p q s j; simp; omega
theorem Duals.mono {M N:List V} {ps:List Nat} {r C:Nat} {d:Int} {w:Nat→V} (h:Duals M ps r C d w) (hM : ∀ v∈M,Span N v):Duals N ps r C d w:=⟨h.ne,fun k hk=>(h.span k hk).trans hM,h.at',h.abs⟩
theorem mulpos_ne {a b:Int} (h:0<a) (h':0<b):a*b≠0:=by have:=Int.mul_pos h h'; omega
theorem hnf_small {n:Nat} {M F:Mx} (hn:n≤4) (hM : ∀ r∈M,∀ z∈r,z.natAbs≤20) (h:HnfOf n M F) : ∀ i,i<F.length → ∀ j,(eM F i j).natAbs≤15360000:=by
 obtain ⟨⟨ps,hF⟩,h1,h2⟩:=h
 have hM' : ∀ r∈latM M,∀ j,(r j).natAbs≤20:=by
  intro r hr j;obtain ⟨l,hl,rfl⟩:=List.mem_map.1 hr;show (l.getD j 0).natAbs≤20;rw [List.getD_eq_getElem?_getD]
  rcases Nat.lt_or_ge j l.length with hj | hj
  ·rw [List.getElem?_eq_getElem hj]; exact hM l hl _ (List.getElem_mem hj)
  ·rw [List.getElem?_eq_none hj]; simp
 have hD:F.length≤4 ∧ ∃ d w,Duals (latM M) ps F.length 3840000 d w:=by
  have hlen:=hF.len
  match F,ps,hF,h1,hlen with
  | [],[],hF,h1,_=>exact ⟨by simp,_,_,duals0 _ _⟩
  | [f],[p],hF,h1,_ =>
   exact ⟨by simp,duals1 hM' (h1 (vr f) (by simp [latM])) (by have:0<vr f p:=hF.pos 0 (by simp); omega)⟩
  | [f,g],[p,q],hF,h1,_ =>
   refine ⟨by simp,duals2 hM' (h1 (vr f) (by simp [latM])) (h1 (vr g) (by simp [latM])) ?_⟩;have a0:0<vr f p:=hF.pos 0 (by simp);have a1:0<vr g q:=hF.pos 1 (by simp);have z1:vr g p=0:=hF.left 1 (by simp) p (hF.inc 0 1 (by omega) (by simp));unfold det2; rw [z1]
   have:=mulpos_ne a0 a1; simpa using this
  | [f,g,e],[p,q,s],hF,h1,_ =>
   refine ⟨by simp,duals3 hM' (h1 (vr f) (by simp [latM])) (h1 (vr g) (by simp [latM])) (h1 (vr e) (by simp [latM])) ?_⟩;have a0:0<vr f p:=hF.pos 0 (by simp);have a1:0<vr g q:=hF.pos 1 (by simp);have a2:0<vr e s:=hF.pos 2 (by simp);have z1:vr g p=0:=hF.left 1 (by simp) p (hF.inc 0 1 (by omega) (by simp));have z2:vr e p=0:=hF.left 2 (by simp) p (hF.inc 0 2 (by omega) (by simp));have z3:vr e q=0:=hF.left 2 (by simp) q (hF.inc 1 2 (by omega) (by simp));simp only [det3,det2,z1,z2,z3];have:=mulpos_ne a0 (Int.mul_pos a1 a2); simpa using this
  | [f,g,e,c],[p,q,s,t],hF,h1,_ =>
   refine ⟨by simp,duals4 hM' (h1 (vr f) (by simp [latM])) (h1 (vr g) (by simp [latM])) (h1 (vr e) (by simp [latM])) (h1 (vr c) (by simp [latM])) ?_⟩;have a0:0<vr f p:=hF.pos 0 (by simp);have a1:0<vr g q:=hF.pos 1 (by simp);have a2:0<vr e s:=hF.pos 2 (by simp);have a3:0<vr c t:=hF.pos 3 (by simp);have z1:vr g p=0:=hF.left 1 (by simp) p (hF.inc 0 1 (by omega) (by simp));have z2:vr e p=0:=hF.left 2 (by simp) p (hF.inc 0 2 (by omega) (by simp));have z3:vr e q=0:=hF.left 2 (by simp) q (hF.inc 1 2 (by omega) (by simp));have z4:vr c p=0:=hF.left 3 (by simp) p (hF.inc 0 3 (by omega) (by simp));have z5:vr c q=0:=hF.left 3 (by simp) q (hF.inc 1 3 (by omega) (by simp));have z6:vr c s=0:=hF.left 3 (by simp) s (hF.inc 2 3 (by omega) (by simp));simp only [det4,det3,det2,z1,z2,z3,z4,z5,z6];have:=mulpos_ne a0 (Int.mul_pos a1 (Int.mul_pos a2 a3)); simpa using this
  | _::_::_::_::_::F',p::q::s::t::u::ps',hF,h1,_ =>
   exfalso;have i1:=hF.inc 0 1 (by omega) (by simp);have i2:=hF.inc 1 2 (by omega) (by simp);have i3:=hF.inc 2 3 (by omega) (by simp);have i4:=hF.inc 3 4 (by omega) (by simp);have i5:=hF.lt 4 (by simp);omega
  | [],_::_,hF,h1,hl=>simp at hl
  | [_],[],hF,h1,hl=>simp at hl
  | [_],_::_::_,hF,h1,hl=>simp at hl
  | [_,_],[],hF,h1,hl=>simp at hl
  | [_,_],[_],hF,h1,hl=>simp at hl
  | [_,_],_::_::_::_,hF,h1,hl=>simp at hl
  | [_,_,_],[],hF,h1,hl=>simp at hl
  | [_,_,_],[_],hF,h1,hl=>simp at hl
  | [_,_,_],[_,_],hF,h1,hl=>simp at hl
  | [_,_,_],_::_::_::_::_,hF,h1,hl=>simp at hl
  | _::_::_::_::_,[],hF,h1,hl=>simp at hl
  | _::_::_::_::_,[_],hF,h1,hl=>simp at hl
  | _::_::_::_::_,[_,_],hF,h1,hl=>simp at hl
  | _::_::_::_::_,[_,_,_],hF,h1,hl=>simp at hl
  | _::_::_::_::_::_,[_,_,_,_],hF,h1,hl=>simp at hl
  | [_,_,_,_],_::_::_::_::_::_,hF,h1,hl=>simp at hl
 obtain ⟨hl,d,w,hD⟩:=hD;intro i hi j;have:=duals_small hF (hD.mono h2) i hi j;have:F.length*3840000≤4*3840000:=Nat.mul_le_mul_right _ hl;omega
def stepQ (r x:List Int):Int:=(x.getD (pv r) 0).fdiv (r.getD (pv r) 0)
def redX:Mx→List Int→List Int
 | [],x=>x
 | r::F,x=>redX F (subK (stepQ r x) x r)
def redQ:Mx→List Int→List Int
 | [],_=>[]
 | r::F,x=>stepQ r x::redQ F (subK (stepQ r x) x r)
theorem redX_snoc (r:List Int) : ∀ (F:Mx) (x:List Int),redX (F++[r]) x=subK (stepQ r (redX F x)) (redX F x) r
 | [],x=>rfl
 | f::F,x=>by rw [List.cons_append,redX,redX,redX_snoc r F]
@[simp] theorem redX_length : ∀ (F:Mx) (x:List Int),(redX F x).length=x.length
 | [],x=>rfl
 | f::F,x=>by rw [redX,redX_length F]; simp
@[simp] theorem redQ_length : ∀ (F:Mx) (x:List Int),(redQ F x).length=F.length
 | [],x=>rfl
 | f::F,x=>by rw [redQ,List.length_cons,redQ_length F]; rfl
theorem redX_take {F:Mx} {i:Nat} (h:i<F.length) (x:List Int):redX (F.take (i+1)) x=subK (stepQ (F.getD i []) (redX (F.take i) x)) (redX (F.take i) x) (F.getD i []):=by
 rw [take_snocM h,redX_snoc,getD_get h]
theorem stepQ_abs {r x:List Int} (h:r.getD (pv r) 0≠0) {B:Nat} (hB:0<B) (hx : ∀ z∈x,z.natAbs<B):(stepQ r x).natAbs<B:=by
 refine Nat.lt_of_le_of_lt (fdiv_abs _ h) ?_;rw [List.getD_eq_getElem?_getD]
 rcases Nat.lt_or_ge (pv r) x.length with hl | hl
 ·rw [List.getElem?_eq_getElem hl]; exact hx _ (List.getElem_mem hl)
 ·rw [List.getElem?_eq_none hl]; simpa using hB
theorem redX_span {n:Nat} : ∀ (F:Mx) (x:List Int),Rect n F→x.length=n→Span (latM F) (Hnf.sub (vr x) 1 (vr (redX F x)))
 | [],x,_,_=>by
  have e:Hnf.sub (vr x) 1 (vr (redX [] x))=fun _=>0:=by funext j; simp [Hnf.sub,redX]
  rw [e]; exact .zero
 | r::F,x,hF,hx=>by
  have hr:r.length=n:=hF r (by simp);have ih:=redX_span F (subK (stepQ r x) x r) (fun s hs=>hF s (by simp [hs])) (by simp [hx])
  have h2:Span (latM (r::F)) (Hnf.sub (vr (subK (stepQ r x) x r)) 1 (vr (redX F (subK (stepQ r x) x r)))):=ih.mono fun v hv=>by
   simp only [latM,List.map_cons]; exact List.mem_cons_of_mem _ hv
  have h3:=h2.step (-(stepQ r x)) (r:=vr r) (by simp [latM]);refine span_of_eq h3 fun j => ?_
  rw [redX,vr_sub _ (by omega)];simp only [Hnf.sub]; grind
theorem redX_keep {n:Nat} : ∀ (F:Mx) (x:List Int) (j:Nat),Rect n F→x.length=n→(∀ r∈F,r.getD j 0=0)→(redX F x).getD j 0=x.getD j 0
 | [],x,j,_,_,_=>rfl
 | r::F,x,j,hF,hx,hz=>by
  have hr:r.length=n:=hF r (by simp);rw [redX,redX_keep F _ j (fun s hs=>hF s (by simp [hs])) (by simp [hx]) (fun s hs=>hz s (by simp [hs])),subK_getD _ _ _ _ (by omega),hz r (by simp)];simp
theorem redX_range {n:Nat} {ps:List Nat} {F:Mx} (h:IsH n ps F) {x:List Int} (hx:x.length=n) (i:Nat) (hi:i<F.length):0≤(redX F x).getD (ps.getD i 0) 0∧(redX F x).getD (ps.getD i 0) 0<eM F i (ps.getD i 0):=by
 have e:redX F x=redX (F.drop (i+1)) (redX (F.take (i+1)) x):=by
  have : ∀ (A B:Mx) (y:List Int),redX (A++B) y=redX B (redX A y):=by
   intro A
   induction A with
   | nil=>intro B y; rfl
   | cons a A ih=>intro B y; rw [List.cons_append,redX,redX,ih]
  rw [← this,List.take_append_drop]
 have hl1:(redX (F.take (i+1)) x).length=n:=by simp [hx]
 have hFi:(F.getD i []).length=n:=by rw [getD_get hi]; exact h.rect _ (List.getElem_mem hi)
 rw [e,redX_keep (n:=n) _ _ _ (fun s hs=>h.rect s (List.mem_of_mem_drop hs)) hl1 (fun r hr => ?_),redX_take hi,subK_getD _ _ _ _ (by rw [hFi,redX_length,hx]; exact Nat.le_refl _)]
 ·have hpi:ps.getD i 0=pv (F.getD i []):=by rw [isH_pv h,getD_map pv F i hi 0 []]
  rw [hpi];have hpos:=h.pos i hi;rw [hpi] at hpos;exact fdr_pos hpos
 ·obtain ⟨t,ht,rfl⟩:=List.getElem_of_mem hr;rw [List.getElem_drop];have ht':i+1+t<F.length:=by simp at ht; omega
  have:=h.left (i+1+t) ht' (ps.getD i 0) (h.inc i (i+1+t) (by omega) ht');unfold eM at this;rw [getD_get ht'] at this;exact this
def zeroL (l:List Int):Prop := ∀ z∈l,z=0
theorem zero_vr {l:List Int}:zeroL l ↔ ∀ j,vr l j=0:=by
 constructor
 ·intro h j;show l.getD j 0=0;rw [List.getD_eq_getElem?_getD]
  rcases Nat.lt_or_ge j l.length with hj | hj
  ·rw [List.getElem?_eq_getElem hj]; exact h _ (List.getElem_mem hj)
  ·rw [List.getElem?_eq_none hj]; rfl
 ·intro h z hz;obtain ⟨j,hj,rfl⟩:=List.getElem_of_mem hz;have:=h j;show l[j]=0;rw [← getD_get hj 0]; exact this
theorem redX_zero {n:Nat} {ps:List Nat} {F:Mx} (h:IsH n ps F) {x:List Int} (hx:x.length=n):zeroL (redX F x)↔Span (latM F) (vr x):=by
 have hs:=redX_span F x h.rect hx;rw [zero_vr];constructor
 ·intro hz;refine span_of_eq hs fun j => ?_
  simp [Hnf.sub,hz j]
 ·intro hv
  have hr:Span (latM F) (vr (redX F x)):=by
   refine span_of_eq (hv.sub 1 hs) fun j => ?_
   simp only [Hnf.sub]; omega
  rcases Hnf.first (vr (redX F x)) with h0 | ⟨j,hj,hz⟩
  ·exact h0
  ·exfalso;rw [← wps_rows h.len] at hr;obtain ⟨g,hg,e,hd⟩:=h.ech.lead hr hj hz;obtain ⟨i,hi,rfl⟩:=wps_mem h.len hg;simp only at e hd;subst e;have hrg:=redX_range h hx i hi;obtain ⟨c,hc⟩:=hd;have hpos:=h.pos i hi;have hc':(redX F x).getD (ps.getD i 0) 0=eM F i (ps.getD i 0)*c:=hc;have hj':(redX F x).getD (ps.getD i 0) 0≠0:=hj;have hlt:(eM F i (ps.getD i 0)*c).natAbs<(eM F i (ps.getD i 0)).natAbs:=by rw [← hc']; omega
   rw [Int.natAbs_mul] at hlt
   have hc0:c.natAbs=0:=by
    rcases Nat.eq_zero_or_pos c.natAbs with h | h
    ·exact h
    ·have:=Nat.mul_le_mul_left (eM F i (ps.getD i 0)).natAbs h; omega
   have hcz:c=0:=by omega
   rw [hcz,Int.mul_zero] at hc';exact hj' hc'
def ln1 (M:Mx):List Ln:=M.map fun r=>(r,[])
@[simp] theorem ln1_length (M:Mx):(ln1 M).length=M.length:=by simp [ln1]
theorem ln1_dim {n:Nat} {M:Mx} (h:Rect n M):Dim n 0 (ln1 M):=by
 intro l hl;obtain ⟨r,hr,rfl⟩:=List.mem_map.1 hl;exact ⟨h r hr,rfl⟩
theorem ln1_lat (M:Mx):latL (ln1 M)=latM M:=by simp [latL,latM,ln1,Function.comp_def]
theorem form_of1 {n d:Nat} {ps:List Nat} {M:Mx} {ls:List Ln} (hM:Rect n M) (ho:Ops 0 (ln1 M) ls) (h:FormTo n d ps ls):HnfOf n M (fRows d ls):=by
 have hd0:=ln1_dim hM;have hd:=hd0.ops ho;have hl:=ho.lat hd0;rw [ln1_lat] at hl;have hf:=h.lat hd;exact ⟨⟨ps,h.isH hd⟩,fun v hv=>hl.1 v (hf.1 v hv),fun v hv=>(hl.2 v hv).trans hf.2⟩
theorem FormTo.full {c c' d:Nat} {ps:List Nat} {ls:List Ln} (h:FormTo c d ps ls) (hd:d=ls.length) (hc:c≤c'):FormTo c' d ps ls :=
 ⟨h.len,h.le,fun i hi=>by have:=h.lt i hi; omega,h.inc,h.left,h.pos,h.red,fun i h1 h2=>by omega⟩
def sumZ (f:Nat→Int):Nat→Int
 | 0=>0
 | n+1=>sumZ f n+f n
theorem sumZ_congr {f g:Nat→Int} : ∀ {n},(∀ i,i<n→f i=g i)→sumZ f n=sumZ g n
 | 0,_=>rfl
 | n+1,h=>by rw [sumZ,sumZ,sumZ_congr (fun i hi=>h i (by omega)),h n (by omega)]
theorem sumZ_zero {f:Nat→Int} : ∀ {n},(∀ i,i<n→f i=0)→sumZ f n=0
 | 0,_=>rfl
 | n+1,h=>by rw [sumZ,sumZ_zero (fun i hi=>h i (by omega)),h n (by omega)]; rfl
theorem sumZ_sub (f g:Nat→Int) : ∀ n,sumZ (fun i=>f i-g i) n=sumZ f n-sumZ g n
 | 0=>rfl
 | n+1=>by rw [sumZ,sumZ,sumZ,sumZ_sub f g n]; omega
theorem sumZ_mul (q:Int) (f:Nat→Int) : ∀ n,sumZ (fun i=>q*f i) n=q*sumZ f n
 | 0=>by simp [sumZ]
 | n+1=>by rw [sumZ,sumZ,sumZ_mul q f n,Int.mul_add]
theorem sumZ_one {f:Nat→Int} {k:Nat} : ∀ {n},k<n→(∀ i,i<n→i≠k→f i=0)→sumZ f n=f k
 | 0,h,_=>by omega
 | n+1,h,hz=>by
  rw [sumZ]
  by_cases e:k=n
  ·subst e; rw [sumZ_zero (fun i hi=>hz i (by omega) (by omega))]; omega
  ·rw [sumZ_one (n:=n) (by omega) (fun i hi=>hz i (by omega)),hz n (by omega) (Ne.symm e)]; omega
def cmb (M:Mx) (y:V):V:=fun j=>sumZ (fun i=>y i*eM M i j) M.length
theorem cmb_sub (M:Mx) (y z:V) (q:Int) (j:Nat):cmb M (Hnf.sub y q z) j=cmb M y j-q*cmb M z j:=by
 unfold cmb;rw [← sumZ_mul, ← sumZ_sub];exact sumZ_congr fun i _=>by simp only [Hnf.sub]; grind
theorem cmb_zero (M:Mx) (j:Nat):cmb M (fun _=>0) j=0:=sumZ_zero fun i _=>by simp
def wideM (M:Mx):Mx:=M.mapIdx fun i r=>r++unitR M.length i
@[simp] theorem wideM_length (M:Mx):(wideM M).length=M.length:=by simp [wideM]
theorem wideM_get {M:Mx} {i:Nat} (h:i<M.length):(wideM M)[i]'(by simpa using h)=M[i]++unitR M.length i:=by simp [wideM]
theorem wideM_rect {c:Nat} {M:Mx} (h:Rect c M):Rect (c+M.length) (wideM M):=by
 intro r hr;obtain ⟨i,hi,rfl⟩:=List.getElem_of_mem hr;rw [wideM_get (by simpa using hi),List.length_append,h _ (List.getElem_mem _)];simp [unitR]
theorem unitR_getD (m i j:Nat):(unitR m i).getD j 0=if j=i∧i<m then 1 else 0:=by
 unfold unitR;rw [List.getD_eq_getElem?_getD,List.getElem?_set]
 by_cases e:i=j
 ·subst e
  by_cases h:i<m
  ·simp [h]
  ·simp [h]
 ·rw [if_neg e,if_neg (by omega),List.getElem?_replicate];split <;> rfl
theorem wide_vr {c:Nat} {M:Mx} (hR:Rect c M) {i:Nat} (h:i<M.length) (j:Nat):vr ((wideM M)[i]'(by simpa using h)) j=if j<c then eM M i j else if j=c+i then 1 else 0:=by
 have hl:M[i].length=c:=hR _ (List.getElem_mem h);rw [wideM_get h];unfold vr eM;rw [getD_get h];simp only [List.getD_eq_getElem?_getD]
 by_cases hj:j<c
 ·rw [if_pos hj,List.getElem?_append_left (by omega)]
 ·rw [if_neg hj,List.getElem?_append_right (by omega), ← List.getD_eq_getElem?_getD,unitR_getD,hl]
  by_cases e:j=c+i
  ·rw [if_pos e,if_pos (by omega)]
  ·rw [if_neg e,if_neg (by omega)]
theorem eM_far {c:Nat} {M:Mx} (hR:Rect c M) {i j:Nat} (hj:c≤j):eM M i j=0:=by
 unfold eM
 rcases Nat.lt_or_ge i M.length with hi | hi
 ·rw [getD_get hi,List.getD_eq_getElem?_getD,List.getElem?_eq_none (by rw [hR _ (List.getElem_mem hi)]; exact hj)]; rfl
 ·simp only [List.getD_eq_getElem?_getD]; rw [List.getElem?_eq_none hi]; rfl
theorem eM_vr {M:Mx} {i:Nat} (h:i<M.length) (j:Nat):eM M i j=vr M[i] j:=by unfold eM vr; rw [getD_get h]
theorem wide_span {c:Nat} {M:Mx} (hR:Rect c M) {v:V} (h:Span (latM (wideM M)) v):(∀ j,j<c→v j=cmb M (fun i=>v (c+i)) j) ∧ ∀ j,c+M.length≤j→v j=0:=by
 induction h with
 | zero=>exact ⟨fun j _=>(cmb_zero M j).symm,fun _ _=>rfl⟩
 | @step v r q _ hr ih =>
  obtain ⟨x,hx,rfl⟩:=List.mem_map.1 hr;obtain ⟨i,hi,rfl⟩:=List.getElem_of_mem hx;have hi':i<M.length:=by simpa using hi
  refine ⟨fun j hj => ?_,fun j hj => ?_⟩
  ·have e:(fun k=>Hnf.sub v q (vr (wideM M)[i]) (c+k))=Hnf.sub (fun k=>v (c+k)) q (fun k=>if k=i then 1 else 0):=by
    funext k
    simp only [Hnf.sub,wide_vr hR hi'];rw [if_neg (by omega)]
    by_cases e:k=i
    ·rw [if_pos (by omega),if_pos e]
    ·rw [if_neg (by omega),if_neg e]
   rw [e,cmb_sub]
   have e2:cmb M (fun k=>if k=i then 1 else 0) j=eM M i j:=by
    unfold cmb;rw [sumZ_one (k:=i) hi' (fun t _ ht=>by simp only [if_neg ht]; simp)];simp
   rw [e2];simp only [Hnf.sub,wide_vr hR hi',if_pos hj, ← ih.1 j hj]
  ·simp only [Hnf.sub,wide_vr hR hi',ih.2 j hj];rw [if_neg (by omega),if_neg (by omega)]; simp
theorem span_sum {M:List V} {f:Nat→V} (y:V) : ∀ {n:Nat},(∀ i,i<n→Span M (f i))→Span M (fun j=>sumZ (fun i=>y i*f i j) n)
 | 0,_ => .zero
 | n+1,h=>by
  have h1:=span_sum y (n:=n) (fun i hi=>h i (by omega));refine span_of_eq (h1.sub (-(y n)) (h n (by omega))) fun j => ?_
  simp only [Hnf.sub,sumZ]; grind
theorem span_wide {c:Nat} {M:Mx} (hR:Rect c M) {v:V} (h1 : ∀ j,j<c→v j=cmb M (fun i=>v (c+i)) j) (h2 : ∀ j,c+M.length≤j→v j=0):Span (latM (wideM M)) v:=by
 have hs:=span_sum (M:=latM (wideM M)) (f:=fun i=>vr ((wideM M).getD i [])) (fun i=>v (c+i)) (n:=M.length) (fun i hi=>by
  rw [getD_get (by simpa using hi)]; exact .mem (List.mem_map.2 ⟨_,List.getElem_mem _,rfl⟩))
 refine span_of_eq hs fun j => ?_
 have e : ∀ i,i<M.length→v (c+i)*vr ((wideM M).getD i []) j=v (c+i)*(if j<c then eM M i j else if j=c+i then 1 else 0):=fun i hi=>by
  rw [getD_get (by simpa using hi),wide_vr hR hi]
 rw [sumZ_congr e]
 by_cases hj:j<c
 ·rw [h1 j hj]; unfold cmb; exact sumZ_congr fun i _=>by rw [if_pos hj]
 ·by_cases hj2:j<c+M.length
  ·rw [sumZ_one (k:=j-c) (by omega) (fun i hi hne=>by rw [if_neg hj,if_neg (by omega)]; simp),if_neg hj,if_pos (by omega),show c+(j-c)=j by omega]; simp
  ·rw [h2 j (by omega),sumZ_zero fun i hi=>by rw [if_neg hj,if_neg (by omega)]; simp]
theorem span_cmb {M:Mx} {v:V}:Span (latM M) v ↔ ∃ y,v=cmb M y:=by
 constructor
 ·intro h
  induction h with
  | zero=>exact ⟨fun _=>0,by funext j; exact (cmb_zero M j).symm⟩
  | @step v r q _ hr ih =>
   obtain ⟨y,rfl⟩:=ih;obtain ⟨x,hx,rfl⟩:=List.mem_map.1 hr;obtain ⟨i,hi,rfl⟩:=List.getElem_of_mem hx;refine ⟨Hnf.sub y q (fun k=>if k=i then 1 else 0),?_⟩
   funext j
   rw [cmb_sub]
   have e2:cmb M (fun k=>if k=i then 1 else 0) j=eM M i j:=by
    unfold cmb;rw [sumZ_one (k:=i) hi (fun t _ ht=>by simp only [if_neg ht]; simp)];simp
   rw [e2,eM_vr hi]; rfl
 ·rintro ⟨y,rfl⟩
  have hs:=span_sum (M:=latM M) (f:=fun i=>vr (M.getD i [])) y (n:=M.length) (fun i hi=>by
   rw [getD_get hi]; exact .mem (List.mem_map.2 ⟨_,List.getElem_mem _,rfl⟩))
  exact hs
def upr (c:Nat) (H:Mx):Mx:=H.filter fun r=>decide (pv r<c)
def low (c:Nat) (H:Mx):Mx:=H.filter fun r => !decide (pv r<c)
def krn (c:Nat) (H:Mx):Mx:=(low c H).map (List.drop c)
theorem split_at (P:Nat→Prop) (hm : ∀ i j,i<j → ¬ P i → ¬ P j) : ∀ k,∃ u,u≤k∧(∀ i,i<u→P i) ∧ ∀ i,u≤i→i<k → ¬ P i
 | 0=>⟨0,by omega,fun i h=>by omega,fun i _ h=>by omega⟩
 | k+1=>by
  obtain ⟨u,hu,h1,h2⟩:=split_at P hm k
  by_cases hk:P k
  ·have:u=k:=Classical.byContradiction fun hne=>hm u k (by omega) (h2 u (Nat.le_refl _) (by omega)) hk
   subst this
   exact ⟨u+1,by omega,fun i hi=>by
    rcases Nat.lt_or_ge i u with h | h
    ·exact h1 i h
    ·have:i=u:=by omega
     subst this; exact hk,fun i h h'=>by omega⟩
  ·exact ⟨u,by omega,h1,fun i hi hik=>by
    by_cases e:i=k
    ·subst e; exact hk
    ·exact h2 i hi (by omega)⟩
theorem filter_take {α:Type} {p:α→Bool} : ∀ {l:List α} {u:Nat},(∀ i (h:i<l.length),i<u→p l[i]=true)→(∀ i (h:i<l.length),u≤i→p l[i]=false)→l.filter p=l.take u∧l.filter (fun a => !p a)=l.drop u
 | [],u,_,_=>by simp
 | a::l,0,_,h2=>by
  have ih:=filter_take (l:=l) (u:=0) (p:=p) (fun i h hi=>by omega) (fun i h _=>by have:=h2 (i+1) (by simpa using h) (by omega); simpa using this);have ha:=h2 0 (by simp) (by omega);simp only [List.getElem_cons_zero] at ha;rw [List.filter_cons_of_neg (by simp [ha]),List.filter_cons_of_pos (by simp [ha]),ih.1,ih.2];simp
 | a::l,u+1,h1,h2=>by
  have ih:=filter_take (l:=l) (u:=u) (p:=p) (fun i h hi=>by have:=h1 (i+1) (by simpa using h) (by omega); simpa using this) (fun i h hi=>by have:=h2 (i+1) (by simpa using h) (by omega); simpa using this);have ha:=h1 0 (by simp) (by omega);simp only [List.getElem_cons_zero] at ha;rw [List.filter_cons_of_pos ha,List.filter_cons_of_neg (by simp [ha]),ih.1,ih.2];simp
theorem IsH.pvs {n:Nat} {ps:List Nat} {H:Mx} (h:IsH n ps H) {i:Nat} (hi:i<H.length):ps.getD i 0=pv (H.getD i []):=by
 rw [isH_pv h,getD_map pv H i hi 0 []]
theorem IsH.split {n:Nat} {ps:List Nat} {H:Mx} (h:IsH n ps H) (c:Nat) : ∃ u,u≤H.length∧upr c H=H.take u∧low c H=H.drop u∧(∀ i,i<u→ps.getD i 0<c) ∧ ∀ i,u≤i→i<H.length→c≤ps.getD i 0:=by
 obtain ⟨u,hu,h1,h2⟩:=split_at (fun i=>i<H.length∧ps.getD i 0<c) (fun i j hij hn hp=>hn ⟨by omega,by have:=h.inc i j hij hp.1; omega⟩) H.length
 have hf:=filter_take (p:=fun r=>decide (pv r<c)) (l:=H) (u:=u) (fun i hi hiu=>by
  have:=(h1 i hiu).2;rw [h.pvs hi,getD_get hi] at this
  exact decide_eq_true this) (fun i hi hiu=>by
  have:=h2 i hiu hi;refine decide_eq_false fun hc=>this ⟨hi,?_⟩
  rw [h.pvs hi,getD_get hi]; exact hc)
 exact ⟨u,hu,hf.1,hf.2,fun i hi=>(h1 i hi).2,fun i hi hl=>Classical.byContradiction fun hc=>h2 i hi hl ⟨hl,by omega⟩⟩
theorem subK_take (k:Int) (c:Nat) : ∀ (a b:List Int),b.length≤a.length→(subK k a b).take c=subK k (a.take c) (b.take c):=by
 induction c with
 | zero=>intro a b _; simp [subK]
 | succ c ih =>
  intro a b h
  cases b with
  | nil=>simp [subK_nil]
  | cons y b =>
   cases a with
   | nil=>simp at h
   | cons x a=>simp only [subK,List.take_succ_cons]; rw [ih a b (by simpa using h)]
theorem getD_take {l:List Int} {c j:Nat} (h:j<c):(l.take c).getD j 0=l.getD j 0:=by
 simp only [List.getD_eq_getElem?_getD,List.getElem?_take,if_pos h]
theorem getD_drop (l:List Int) (c j:Nat):(l.drop c).getD j 0=l.getD (c+j) 0:=by
 simp only [List.getD_eq_getElem?_getD,List.getElem?_drop]
theorem pv_take {r:List Int} {c:Nat} (h:pv r<c) (hr:pv r<r.length):pv (r.take c)=pv r:=by
 refine (pv_of (p:=pv r) ?_ fun j hj => ?_).1
 ·rw [getD_take h]; exact pv_ne hr
 ·rw [getD_take (by omega)]; exact pv_zero hj
theorem redX_left {m c:Nat} : ∀ (U:Mx) (l:List Int),Rect m U→l.length=m→(∀ r∈U,pv r<c∧pv r<m)→(redX U l).take c=redX (U.map (List.take c)) (l.take c)
 | [],l,_,_,_=>rfl
 | r::U,l,hR,hl,hp=>by
  have hr:r.length=m:=hR r (by simp);obtain ⟨p1,p2⟩:=hp r (by simp);rw [redX,List.map_cons,redX,redX_left U _ (fun s hs=>hR s (by simp [hs])) (by simp [hl]) (fun s hs=>hp s (by simp [hs])),subK_take _ _ _ _ (by omega)]
  have e:stepQ (r.take c) (l.take c)=stepQ r l:=by
   unfold stepQ;rw [pv_take p1 (by omega),getD_take p1,getD_take p1]
  rw [e]
theorem eM_map_take {c:Nat} {H:Mx} {i j:Nat} (hj:j<c):eM (H.map (List.take c)) i j=eM H i j:=by
 unfold eM
 rcases Nat.lt_or_ge i H.length with hi | hi
 ·rw [getD_map (List.take c) H i hi [] [],getD_take hj]
 ·rw [show (H.map (List.take c)).getD i []=[] by rw [List.getD_eq_getElem?_getD,List.getElem?_eq_none (by simpa using hi)]; rfl,show H.getD i []=[] by rw [List.getD_eq_getElem?_getD,List.getElem?_eq_none hi]; rfl]
theorem eM_map_drop {c:Nat} {H:Mx} {i j:Nat}:eM (H.map (List.drop c)) i j=eM H i (c+j):=by
 unfold eM
 rcases Nat.lt_or_ge i H.length with hi | hi
 ·rw [getD_map (List.drop c) H i hi [] [],getD_drop]
 ·rw [show (H.map (List.drop c)).getD i []=[] by rw [List.getD_eq_getElem?_getD,List.getElem?_eq_none (by simpa using hi)]; rfl,show H.getD i []=[] by rw [List.getD_eq_getElem?_getD,List.getElem?_eq_none hi]; rfl]; rfl
theorem eM_take {H:Mx} {u i j:Nat} (h:i<u):eM (H.take u) i j=eM H i j:=by
 unfold eM; simp only [List.getD_eq_getElem?_getD,List.getElem?_take,if_pos h]
theorem eM_drop {H:Mx} {u i j:Nat}:eM (H.drop u) i j=eM H (u+i) j:=by
 unfold eM; simp only [List.getD_eq_getElem?_getD,List.getElem?_drop]
theorem getD_takeN {l:List Nat} {u i:Nat} (h:i<u):(l.take u).getD i 0=l.getD i 0:=by
 simp only [List.getD_eq_getElem?_getD,List.getElem?_take,if_pos h]
theorem IsH.leftU {n c u:Nat} {ps:List Nat} {H:Mx} (h:IsH n ps H) (hc:c≤n) (hu:u≤H.length) (hp : ∀ i,i<u→ps.getD i 0<c):IsH c (ps.take u) ((H.take u).map (List.take c)):=by
 have hl:((H.take u).map (List.take c)).length=u:=by simp; omega
 have hpl:=h.len;refine ⟨fun r hr => ?_,by simp; omega,fun i hi => ?_,fun i k hik hk => ?_,fun i hi j hj => ?_,fun i hi => ?_,fun i k hik hk => ?_⟩
 ·obtain ⟨s,hs,rfl⟩:=List.mem_map.1 hr;rw [List.length_take,h.rect s (List.mem_of_mem_take hs)]; omega
 ·rw [getD_takeN (by omega)]; exact hp i (by omega)
 ·rw [getD_takeN (by omega),getD_takeN (by omega)]; exact h.inc i k hik (by omega)
 ·rw [getD_takeN (by omega)] at hj;have:=hp i (by omega);rw [eM_map_take (by omega),eM_take (by omega)]; exact h.left i (by omega) j hj
 ·rw [getD_takeN (by omega),eM_map_take (hp i (by omega)),eM_take (by omega)]; exact h.pos i (by omega)
 ·rw [getD_takeN (by omega),eM_map_take (hp k (by omega)),eM_map_take (hp k (by omega)),eM_take (by omega),eM_take (by omega)]; exact h.red i k hik (by omega)
theorem IsH.rightD {n c m u:Nat} {ps:List Nat} {H:Mx} (h:IsH n ps H) (hn:n=c+m) (hu:u≤H.length) (hp : ∀ i,u≤i→i<H.length→c≤ps.getD i 0):IsH m ((ps.drop u).map (fun p=>p-c)) ((H.drop u).map (List.drop c)):=by
 have hl:((H.drop u).map (List.drop c)).length=H.length-u:=by simp
 have hpl:=h.len
 have hps : ∀ i,i<H.length-u→((ps.drop u).map (fun p=>p-c)).getD i 0=ps.getD (u+i) 0-c:=fun i hi=>by
  rw [List.getD_eq_getElem?_getD,List.getElem?_map,List.getElem?_drop,List.getElem?_eq_getElem (by omega),getD_get (by omega)]; rfl
 refine ⟨fun r hr => ?_,by simp; omega,fun i hi => ?_,fun i k hik hk => ?_,fun i hi j hj => ?_,fun i hi => ?_,fun i k hik hk => ?_⟩
 ·obtain ⟨s,hs,rfl⟩:=List.mem_map.1 hr;rw [List.length_drop,h.rect s (List.mem_of_mem_drop hs)]; omega
 ·rw [hps i (by omega)]; have:=h.lt (u+i) (by omega); have:=hp (u+i) (by omega) (by omega); omega
 ·rw [hps i (by omega),hps k (by omega)];have:=h.inc (u+i) (u+k) (by omega) (by omega);have:=hp (u+i) (by omega) (by omega); omega
 ·rw [hps i (by omega)] at hj;rw [eM_map_drop,eM_drop]; exact h.left (u+i) (by omega) _ (by omega)
 ·rw [hps i (by omega),eM_map_drop,eM_drop];have:=hp (u+i) (by omega) (by omega);rw [show c+(ps.getD (u+i) 0-c)=ps.getD (u+i) 0 by omega]; exact h.pos (u+i) (by omega)
 ·have:=hp (u+k) (by omega) (by omega);rw [hps k (by omega),eM_map_drop,eM_map_drop,eM_drop,eM_drop,show c+(ps.getD (u+k) 0-c)=ps.getD (u+k) 0 by omega]; exact h.red (u+i) (u+k) (by omega) (by omega)
end Go.Proofs.YtmhfccigejcphaaGreatDoor
