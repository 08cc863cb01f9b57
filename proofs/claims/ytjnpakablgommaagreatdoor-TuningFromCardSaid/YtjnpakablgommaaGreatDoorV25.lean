/- Part 25 of the proof of the claim: contracts of the functions that it reaches, and plain laws; no condition. -/
import Derived.Test.YtjnpakablgommaaGreatDoorV24
import Derived.Test.YtjnpakablgommaaGreatDoorV20
import Derived.Test.YtjnpakablgommaaGreatDoorV23
import Derived.Test.YtjnpakablgommaaGreatDoorV22
import Derived.Test.YtjnpakablgommaaGreatDoorV14
set_option maxRecDepth 100000
namespace Go.Proofs.YtjnpakablgommaaGreatDoor
open Hnf (V Span Ech Red)
def dotV (n:Nat) (x y:V):Int:=sumZ (fun i=>x i*y i) n
theorem dot_comm (n:Nat) (x y:V):dotV n x y=dotV n y x:=sumZ_congr fun _ _=>Int.mul_comm _ _
theorem dot_sub (n:Nat) (x z y:V) (q:Int):dotV n (Hnf.sub x q z) y=dotV n x y-q*dotV n z y:=by
 unfold dotV
 rw [← sumZ_mul, ← sumZ_sub]
 exact sumZ_congr fun i _=>by simp only [Hnf.sub]; grind
theorem dot_subr (n:Nat) (x y z:V) (q:Int):dotV n x (Hnf.sub y q z)=dotV n x y-q*dotV n x z:=by
 rw [dot_comm,dot_sub,dot_comm n y,dot_comm n z]
theorem dot_zero (n:Nat) (y:V):dotV n (fun _=>0) y=0:=sumZ_zero fun i _=>by simp
theorem dot_sc (n:Nat) (d:Int) (x y:V):dotV n (sc d x) y=d*dotV n x y:=by
 unfold dotV sc
 rw [← sumZ_mul]
 exact sumZ_congr fun i _=>by grind
theorem span_dot {n:Nat} {L:List V} {y:V} (h : ∀ v∈L,dotV n v y=0) {v:V} (hv:Span L v):dotV n v y=0 :=
 lin_zero (f:=fun v=>dotV n v y) (dot_zero n y) (fun v q u=>dot_sub n v u y q) h hv
theorem dot_combr {n:Nat} {x:V} {a:Nat→Int} {w:Nat→V} : ∀ {r:Nat},dotV n x (comb a w r)=sumZ (fun k=>a k*dotV n x (w k)) r
 | 0=>by rw [dot_comm]; exact dot_zero n x
 | r+1=>by
  show dotV n x (Hnf.sub (comb a w r) (-(a r)) (w r))=sumZ (fun k=>a k*dotV n x (w k)) r+a r*dotV n x (w r)
  rw [dot_subr,dot_combr (r:=r)]
  grind
def KerL (n:Nat) (L:List V) (K:Mx):Prop:=(∃ qs,IsH n qs K) ∧ ∀ y:V,Span (latM K) y↔(∀ v∈L,dotV n v y=0) ∧ ∀ i,n≤i→y i=0
theorem KerL.unique {n:Nat} {L L':List V} {K K':Mx} (h:KerL n L K) (h':KerL n L' K') (hl : ∀ y,(∀ v∈L,dotV n v y=0) ↔ ∀ v∈L',dotV n v y=0):K=K':=by
 obtain ⟨⟨qs,hK⟩,h1⟩:=h
 obtain ⟨⟨qs',hK'⟩,h2⟩:=h'
 exact (IsH.unique hK hK' (fun v hv=>(h2 v).2 (by have:=(h1 v).1 (.mem hv); exact ⟨(hl v).1 this.1,this.2⟩)) (fun v hv=>(h1 v).2 (by have:=(h2 v).1 (.mem hv); exact ⟨(hl v).2 this.1,this.2⟩))).1
theorem KerL.dot {n:Nat} {L:List V} {K:Mx} (h:KerL n L K) {v y:V} (hv:v∈L) (hy:Span (latM K) y):dotV n v y=0:=((h.2 y).1 hy).1 v hv
theorem KerL.three {n:Nat} {L:List V} {A S A':Mx} (hL : ∀ v∈L,∀ i,n≤i→v i=0) (hA:KerL n L A) (hS:KerL n (latM A) S) (hA':KerL n (latM S) A'):A'=A:=by
 refine hA'.unique hA fun y=>⟨fun h v hv => ?_,fun h v hv => ?_⟩
 ·have hvS:Span (latM S) v:=(hS.2 v).2 ⟨fun a ha=>by rw [dot_comm]; exact hA.dot hv (.mem ha),hL v hv⟩
  exact span_dot h hvS
 ·have h2:=(hS.2 v).1 (.mem hv)
  by_cases hn : ∀ i,n≤i→y i=0
  ·have:=span_dot h2.1 ((hA.2 y).2 ⟨h,hn⟩)
   rw [dot_comm]; exact this
  ·have hcut : ∀ x:V,dotV n x y=dotV n x (fun i=>if i<n then y i else 0):=fun x=>sumZ_congr fun i hi=>by show x i*y i=x i*(if i<n then y i else 0); rw [if_pos hi]
   have:=span_dot h2.1 ((hA.2 (fun i=>if i<n then y i else 0)).2 ⟨fun u hu=>by rw [← hcut]; exact h u hu,fun i hi=>if_neg (by omega)⟩)
   rw [hcut,dot_comm]; exact this
def uE (p:Nat):V:=fun i=>if i=p then 1 else 0
theorem dot_uE {n p:Nat} (x:V) (h:p<n):dotV n x (uE p)=x p:=by
 unfold dotV
 rw [sumZ_one (k:=p) h (fun i _ hi=>by simp [uE,hi])]
 simp [uE]
structure KSet (n:Nat) (L:List V) (ps:List Nat) (F:Mx) (C:Nat) (d:Int) (w:Nat→V):Prop where
 hF:IsH n ps F
 up : ∀ v∈L,Span (latM F) v
 dn : ∀ v∈latM F,Span L v
 du:Duals L ps F.length C d w
 sm:d.natAbs≤C
 fr : ∀ v∈L,∀ i,n≤i→v i=0
theorem KSet.far {n C:Nat} {L:List V} {ps:List Nat} {F:Mx} {d:Int} {w:Nat→V} (h:KSet n L ps F C d w) {v:V} (hv:Span L v) : ∀ i,n≤i→v i=0:=fun i hi=>by
 induction hv with
 | zero=>rfl
 | step q _ hr ih=>simp only [Hnf.sub,ih,h.fr _ hr i hi]; simp
theorem KSet.expand {n C:Nat} {L:List V} {ps:List Nat} {F:Mx} {d:Int} {w:Nat→V} (h:KSet n L ps F C d w) {v:V} (hv:Span L v) (j:Nat):d*v j=comb (fun k=>v (ps.getD k 0)) w F.length j:=by
 have hz:=pivots_zero h.hF (v:=Hnf.sub (Hnf.sub (fun _=>0) (-d) v) 1 (comb (fun k=>v (ps.getD k 0)) w F.length)) (((Span.zero.sub (-d) hv).sub 1 (comb_span h.du.span)).trans h.up) (by
  intro s hs
  simp only [Hnf.sub]
  rw [comb_at (s:=s) (d:=d) hs (fun k hk=>h.du.at' k hk s hs)]
  grind) j
 simp only [Hnf.sub] at hz
 grind
def uV (d:Int) (w:Nat→V) (ps:List Nat) (r j:Nat):V:=Hnf.sub (sc d (uE j)) 1 (comb (fun k=>w k j) (fun k=>uE (ps.getD k 0)) r)
section
variable {n C:Nat} {L:List V} {ps:List Nat} {F:Mx} {d:Int} {w:Nat→V}
theorem KSet.u_piv (h:KSet n L ps F C d w) (j:Nat) {s:Nat} (hs:s<F.length):uV d w ps F.length j (ps.getD s 0)=(if ps.getD s 0=j then d else 0)-w s j:=by
 unfold uV
 simp only [Hnf.sub,sc]
 rw [comb_at (s:=s) (d:=1) hs (fun k hk=>by
  unfold uE
  by_cases e:k=s
  ·subst e; simp
  ·rw [if_neg e,if_neg (fun e2=>e (h.hF.inj hs hk e2).symm)])]
 unfold uE; split <;> simp
theorem KSet.u_non (_:KSet n L ps F C d w) (j:Nat) {i:Nat} (hi : ∀ s,s<F.length→ps.getD s 0≠i):uV d w ps F.length j i=if i=j then d else 0:=by
 unfold uV
 simp only [Hnf.sub,sc]
 rw [comb_out (fun k hk=>by unfold uE; rw [if_neg (fun e=>hi k hk e.symm)])]
 unfold uE; split <;> simp
theorem KSet.u_abs (h:KSet n L ps F C d w) (j i:Nat):(uV d w ps F.length j i).natAbs≤C:=by
 by_cases hp : ∃ s,s<F.length∧ps.getD s 0=i
 ·obtain ⟨s,hs,rfl⟩:=hp
  rw [h.u_piv j hs]
  by_cases e:ps.getD s 0=j
  ·rw [if_pos e]
   have:=h.du.at' s hs s hs
   rw [if_pos rfl,e] at this
   rw [this]; simp
  ·rw [if_neg e]
   have:=h.du.abs s hs j
   omega
 ·rw [h.u_non j (fun s hs e=>hp ⟨s,hs,e⟩)]
  split
  ·exact h.sm
  ·simp
theorem KSet.u_far (h:KSet n L ps F C d w) {j i:Nat} (hj:j<n) (hi:n≤i):uV d w ps F.length j i=0:=by
 rw [h.u_non j (fun s hs e=>by have:=h.hF.lt s hs; omega),if_neg (by omega)]
theorem KSet.u_dual (h:KSet n L ps F C d w) {j s:Nat} (hj:j<n) (hs:s<F.length):dotV n (w s) (uV d w ps F.length j)=0:=by
 unfold uV
 rw [dot_subr,dot_comm,dot_sc,dot_comm,dot_uE _ hj,dot_combr,sumZ_one (k:=s) hs (fun k hk hne=>by
  rw [dot_uE _ (h.hF.lt k hk),h.du.at' s hs k hk,if_neg (fun e=>hne e.symm)]; simp),dot_uE _ (h.hF.lt s hs),h.du.at' s hs s hs,if_pos rfl]
 grind
theorem KSet.of_dual (h:KSet n L ps F C d w) {y:V} (hy : ∀ s,s<F.length→dotV n (w s) y=0) : ∀ v∈L,dotV n v y=0:=fun v hv=>by
 have e:dotV n (sc d v) y=0:=by
  have:sc d v=comb (fun k=>v (ps.getD k 0)) w F.length:=funext fun j=>h.expand (.mem hv) j
  rw [this,dot_comm,dot_combr]
  exact sumZ_zero fun k hk=>by rw [dot_comm,hy k hk]; simp
 rw [dot_sc] at e
 exact (Int.mul_eq_zero.1 e).resolve_left h.du.ne
theorem KSet.u_ker (h:KSet n L ps F C d w) {j:Nat} (hj:j<n) : ∀ v∈L,dotV n v (uV d w ps F.length j)=0:=h.of_dual fun _ hs=>h.u_dual hj hs
theorem KSet.ker_zero (h:KSet n L ps F C d w) {y:V} (hy : ∀ v∈L,dotV n v y=0) (hz : ∀ i,(∀ s,s<F.length→ps.getD s 0≠i)→y i=0) : ∀ i,y i=0:=fun i=>by
 by_cases hp : ∃ s,s<F.length∧ps.getD s 0=i
 ·obtain ⟨s,hs,rfl⟩:=hp
  have h1:=span_dot hy (h.du.span s hs)
  unfold dotV at h1
  rw [sumZ_one (k:=ps.getD s 0) (h.hF.lt s hs) (fun k hk hne=>by
   by_cases hk2 : ∃ t,t<F.length∧ps.getD t 0=k
   ·obtain ⟨t,ht,rfl⟩:=hk2
    rw [h.du.at' s hs t ht,if_neg (fun e=>hne (by rw [e]))]; simp
   ·rw [hz k (fun t ht e=>hk2 ⟨t,ht,e⟩)]; simp),h.du.at' s hs s hs,if_pos rfl] at h1
  exact (Int.mul_eq_zero.1 h1).resolve_left h.du.ne
 ·exact hz i (fun s hs e=>hp ⟨s,hs,e⟩)
theorem KSet.u_zero (h:KSet n L ps F C d w) {s:Nat} (hs:s<F.length) (i:Nat):uV d w ps F.length (ps.getD s 0) i=0:=by
 by_cases hp : ∃ t,t<F.length∧ps.getD t 0=i
 ·obtain ⟨t,ht,rfl⟩:=hp
  rw [h.u_piv _ ht,h.du.at' t ht s hs]
  by_cases e:t=s
  ·subst e; simp
  ·rw [if_neg e,if_neg (fun e2=>e (h.hF.inj ht hs e2))]; rfl
 ·rw [h.u_non _ (fun t ht e=>hp ⟨t,ht,e⟩),if_neg (fun e=>hp ⟨s,hs,e.symm⟩)]
theorem KSet.ker_comb (h:KSet n L ps F C d w) {x:V} (hx : ∀ v∈L,dotV n v x=0) (hf : ∀ i,n≤i→x i=0) (i:Nat):d*x i=comb x (uV d w ps F.length) n i:=by
 have hz:=h.ker_zero (y:=Hnf.sub (sc d x) 1 (comb x (uV d w ps F.length) n)) (fun v hv=>by
  rw [dot_subr,dot_comm,dot_sc,dot_comm,hx v hv,dot_combr,sumZ_zero (fun k hk=>by rw [h.u_ker hk v hv]; simp)]; simp) (fun i hi=>by
  simp only [Hnf.sub,sc]
  rcases Nat.lt_or_ge i n with h1 | h1
  ·rw [comb_at (s:=i) (d:=d) h1 (fun k hk=>by rw [h.u_non k hi]; by_cases e:i=k <;> simp [e,eq_comm])]
   grind
  ·rw [comb_out (fun k hk=>h.u_far hk h1),hf i h1]; simp) i
 simp only [Hnf.sub,sc] at hz
 omega
def Jl (n:Nat) (ps:List Nat):List Nat:=(List.range n).filter fun j => !ps.contains j
end
theorem jl_one : ∀ (n:Fin 5) (p:Fin 4),p.val<n.val→(Jl n.val [p.val]).length+1≤n.val:=by decide +kernel
theorem jl_two : ∀ (n:Fin 5) (p q:Fin 4),p.val<q.val→q.val<n.val→(Jl n.val [p.val,q.val]).length+2≤n.val:=by decide +kernel
theorem jl_three : ∀ (n:Fin 5) (p q s:Fin 4),p.val<q.val→q.val<s.val→s.val<n.val→(Jl n.val [p.val,q.val,s.val]).length+3≤n.val:=by decide +kernel
theorem jl_four : ∀ (n:Fin 5) (p q s t:Fin 4),p.val<q.val→q.val<s.val→s.val<t.val→t.val<n.val→(Jl n.val [p.val,q.val,s.val,t.val]).length+4≤n.val:=by decide +kernel
theorem jl_len {n:Nat} {ps:List Nat} {F:Mx} (hn:n≤4) (hF:IsH n ps F):(Jl n ps).length+F.length≤n:=by
 have hlen:=hF.len
 have hlt:=fun i hi=>hF.lt i hi
 have hinc:=fun i k h1 h2=>hF.inc i k h1 h2
 rw [← hlen] at hlt hinc ⊢
 clear hF hlen
 match ps,hlt,hinc with
 | [],_,_=>exact Nat.le_trans (List.length_filter_le _ _) (by simp)
 | [p],hlt,_ =>
  have h0:=hlt 0 (by simp)
  simp at h0
  exact jl_one ⟨n,by omega⟩ ⟨p,by omega⟩ h0
 | [p,q],hlt,hinc =>
  have h0:=hlt 1 (by simp)
  have h1:=hinc 0 1 (by omega) (by simp)
  simp at h0 h1
  exact jl_two ⟨n,by omega⟩ ⟨p,by omega⟩ ⟨q,by omega⟩ h1 h0
 | [p,q,s],hlt,hinc =>
  have h0:=hlt 2 (by simp)
  have h1:=hinc 0 1 (by omega) (by simp)
  have h2:=hinc 1 2 (by omega) (by simp)
  simp at h0 h1 h2
  exact jl_three ⟨n,by omega⟩ ⟨p,by omega⟩ ⟨q,by omega⟩ ⟨s,by omega⟩ h1 h2 h0
 | [p,q,s,t],hlt,hinc =>
  have h0:=hlt 3 (by simp)
  have h1:=hinc 0 1 (by omega) (by simp)
  have h2:=hinc 1 2 (by omega) (by simp)
  have h3:=hinc 2 3 (by omega) (by simp)
  simp at h0 h1 h2 h3
  exact jl_four ⟨n,by omega⟩ ⟨p,by omega⟩ ⟨q,by omega⟩ ⟨s,by omega⟩ ⟨t,by omega⟩ h1 h2 h3 h0
 | p::q::s::t::u::l,hlt,hinc =>
  exfalso
  have h0:=hlt 4 (by simp)
  have h1:=hinc 0 1 (by omega) (by simp)
  have h2:=hinc 1 2 (by omega) (by simp)
  have h3:=hinc 2 3 (by omega) (by simp)
  have h4:=hinc 3 4 (by omega) (by simp)
  simp at h0 h1 h2 h3 h4
  omega
theorem cb_num : ∀ (r s:Fin 5),r.val+s.val≤4→s.val*CB (CB 9 r.val) s.val≤1000000:=by decide +kernel
theorem KSet.ker_d {n:Nat} {L:List V} {ps:List Nat} {F K:Mx} {d:Int} {w:Nat→V} (h:KSet n L ps F (CB 9 F.length) d w) (hn:n≤4) (hK:KerL n L K) : ∃ qs U d2 w2,IsH n qs K∧Duals U qs K.length (CB (CB 9 F.length) K.length) d2 w2∧(∀ v∈U,Span (latM K) v)∧F.length+K.length≤4:=by
 obtain ⟨⟨qs,hQ⟩,hk⟩:=hK
 obtain ⟨U,hU⟩ : ∃ U:List V,U=(Jl n ps).map (uV d w ps F.length):=⟨_,rfl⟩
 have hUa : ∀ v∈U,∀ j,(v j).natAbs≤CB 9 F.length:=fun v hv j=>by
  rw [hU] at hv
  obtain ⟨k,_,rfl⟩:=List.mem_map.1 hv
  exact h.u_abs k j
 have hUs : ∀ k,k<n→Span U (uV d w ps F.length k):=fun k hk2=>by
  by_cases hp : ∃ s,s<F.length∧ps.getD s 0=k
  ·obtain ⟨s,hs,rfl⟩:=hp
   exact span_of_eq .zero fun j=>h.u_zero hs j
  ·refine .mem ?_
   rw [hU]
   refine List.mem_map.2 ⟨k,?_,rfl⟩
   unfold Jl
   refine List.mem_filter.2 ⟨List.mem_range.2 hk2,?_⟩
   simp only [Bool.not_eq_true',List.contains_eq_mem,decide_eq_false_iff_not]
   intro hm
   obtain ⟨s,hs,e⟩:=List.getElem_of_mem hm
   exact hp ⟨s,by rw [← h.hF.len]; exact hs,by rw [getD_get hs]; exact e⟩
 have hS : ∀ v∈latM K,Span U (sc d v):=fun v hv=>by
  obtain ⟨h1,h2⟩:=(hk v).1 (.mem hv)
  exact span_of_eq (comb_span (a:=v) (r:=n) hUs) fun j=>h.ker_comb h1 h2 j
 obtain ⟨k1,k2,d2,w2,hD⟩:=duals_of hn hQ hUa h.du.ne hS
 have hUK : ∀ v∈U,Span (latM K) v:=fun v hv=>by
  rw [hU] at hv
  obtain ⟨k,hk3,rfl⟩:=List.mem_map.1 hv
  have hkn:k<n:=List.mem_range.1 (List.mem_filter.1 hk3).1
  exact (hk _).2 ⟨h.u_ker hkn,fun i hi=>h.u_far hkn hi⟩
 have hl:U.length+F.length≤n:=by rw [hU,List.length_map]; exact jl_len hn h.hF
 exact ⟨qs,U,d2,w2,hQ,hD,hUK,by omega⟩
theorem KSet.ker_b {n:Nat} {L:List V} {ps:List Nat} {F K:Mx} {d:Int} {w:Nat→V} (h:KSet n L ps F (CB 9 F.length) d w) (hn:n≤4) (hK:KerL n L K) : ∀ i,i<K.length → ∀ j,(eM K i j).natAbs≤1000000:=by
 obtain ⟨qs,U,d2,w2,hQ,hD,hUK,hl⟩:=h.ker_d hn hK
 intro i hi j
 exact Nat.le_trans (duals_small hQ (hD.mono hUK) i hi j) (cb_num ⟨F.length,by omega⟩ ⟨K.length,by omega⟩ hl)
theorem KSet.sat_d {n:Nat} {L:List V} {ps:List Nat} {F K S:Mx} {C:Nat} {d:Int} {w:Nat→V} (h:KSet n L ps F C d w) (hn:n≤4) (hK:KerL n L K) (hS:KerL n (latM K) S) (hL : ∀ v∈L,∀ j,(v j).natAbs≤9) : ∃ qs d2 w2,IsH n qs S∧Duals L qs S.length (CB 9 S.length) d2 w2∧(∀ v∈L,Span (latM S) v)∧S.length≤4:=by
 obtain ⟨⟨qs,hQ⟩,hk⟩:=hS
 have hLS : ∀ v∈L,Span (latM S) v:=fun v hv=>(hk v).2 ⟨fun a ha=>by rw [dot_comm]; exact hK.dot hv (.mem ha),h.fr v hv⟩
 have hM : ∀ v∈latM S,Span L (sc d v):=fun x hx=>by
  obtain ⟨h1,h2⟩:=(hk x).1 (.mem hx)
  have hxu : ∀ j,j<n→dotV n x (uV d w ps F.length j)=0:=fun j hj=>by
   rw [dot_comm]
   exact span_dot h1 ((hK.2 _).2 ⟨h.u_ker hj,fun i hi=>h.u_far hj hi⟩)
  refine span_of_eq (comb_span (a:=fun k=>x (ps.getD k 0)) (r:=F.length) h.du.span) fun j => ?_
  rcases Nat.lt_or_ge j n with hj | hj
  ·have:=hxu j hj
   unfold uV at this
   rw [dot_subr,dot_comm,dot_sc,dot_comm,dot_uE _ hj,dot_combr] at this
   show d*x j=_
   have e:sumZ (fun k=>w k j*dotV n x (uE (ps.getD k 0))) F.length=comb (fun k=>x (ps.getD k 0)) w F.length j:=by
    have hg : ∀ r,r≤F.length→sumZ (fun k=>w k j*dotV n x (uE (ps.getD k 0))) r=comb (fun k=>x (ps.getD k 0)) w r j:=by
     intro r
     induction r with
     | zero=>intro _; rfl
     | succ r ih =>
      intro hr
      show sumZ (fun k=>w k j*dotV n x (uE (ps.getD k 0))) r+w r j*dotV n x (uE (ps.getD r 0))=Hnf.sub (comb (fun k=>x (ps.getD k 0)) w r) (-(x (ps.getD r 0))) (w r) j
      rw [ih (by omega),dot_uE _ (h.hF.lt r (by omega))]
      simp only [Hnf.sub]; grind
    exact hg _ (Nat.le_refl _)
   rw [e] at this
   omega
  ·show d*x j=_
   rw [h2 j hj,comb_out (fun k hk=>h.far (h.du.span k hk) j hj)]; simp
 obtain ⟨k1,-,d2,w2,hD⟩:=duals_of hn hQ hL h.du.ne hM
 exact ⟨qs,d2,w2,hQ,hD,hLS,k1⟩
theorem KSet.sat_b {n:Nat} {L:List V} {ps:List Nat} {F K S:Mx} {C:Nat} {d:Int} {w:Nat→V} (h:KSet n L ps F C d w) (hn:n≤4) (hK:KerL n L K) (hS:KerL n (latM K) S) (hL : ∀ v∈L,∀ j,(v j).natAbs≤9) : ∀ i,i<S.length → ∀ j,(eM S i j).natAbs≤1000000:=by
 obtain ⟨qs,d2,w2,hQ,hD,hLS,hl⟩:=h.sat_d hn hK hS hL
 intro i hi j
 have hc : ∀ (s:Fin 5),s.val*CB 9 s.val≤1000000:=by decide +kernel
 exact Nat.le_trans (duals_small hQ (hD.mono hLS) i hi j) (hc ⟨S.length,by omega⟩)
theorem kset_self {n C:Nat} {U:List V} {qs:List Nat} {K:Mx} {d:Int} {w:Nat→V} (hQ:IsH n qs K) (hD:Duals U qs K.length C d w) (hU : ∀ v∈U,Span (latM K) v) (hB:0<K.length→C≤1000000) : ∃ d w,KSet n (latM K) qs K 1000000 d w:=by
 have hfr : ∀ v∈latM K,∀ i,n≤i→v i=0:=fun v hv i hi=>by
  obtain ⟨l,hl,rfl⟩:=List.mem_map.1 hv
  exact vr_far (by rw [hQ.rect l hl]; exact hi)
 rcases Nat.eq_zero_or_pos K.length with h0 | h0
 ·exact ⟨1,w,hQ,fun v hv => .mem hv,fun v hv => .mem hv,⟨by decide,fun k hk=>by omega,fun k hk=>by omega,fun k hk=>by omega⟩,by decide,hfr⟩
 ·have hD2:=hD.mono hU
  refine ⟨d,w,hQ,fun v hv => .mem hv,fun v hv => .mem hv,⟨hD2.ne,hD2.span,hD2.at',fun k hk j=>Nat.le_trans (hD2.abs k hk j) (hB h0)⟩,?_,hfr⟩
  have:=hD2.abs 0 h0 (qs.getD 0 0)
  rw [hD2.at' 0 h0 0 h0,if_pos rfl] at this
  exact Nat.le_trans this (hB h0)
theorem KSet.ker_k {n:Nat} {L:List V} {ps:List Nat} {F K:Mx} {d:Int} {w:Nat→V} (h:KSet n L ps F (CB 9 F.length) d w) (hn:n≤4) (hK:KerL n L K) : ∃ qs d w,KSet n (latM K) qs K 1000000 d w:=by
 obtain ⟨qs,U,d2,w2,hQ,hD,hUK,hl⟩:=h.ker_d hn hK
 obtain ⟨d,w,h⟩:=kset_self hQ hD hUK (fun h0=>by
  have:=cb_num ⟨F.length,by omega⟩ ⟨K.length,by omega⟩ hl
  exact Nat.le_trans (Nat.le_mul_of_pos_left _ h0) this)
 exact ⟨qs,d,w,h⟩
theorem KSet.sat_k {n:Nat} {L:List V} {ps:List Nat} {F K S:Mx} {C:Nat} {d:Int} {w:Nat→V} (h:KSet n L ps F C d w) (hn:n≤4) (hK:KerL n L K) (hS:KerL n (latM K) S) (hL : ∀ v∈L,∀ j,(v j).natAbs≤9) : ∃ qs d w,KSet n (latM S) qs S 1000000 d w:=by
 obtain ⟨qs,d2,w2,hQ,hD,hLS,hl⟩:=h.sat_d hn hK hS hL
 obtain ⟨d,w,h⟩:=kset_self hQ hD hLS (fun h0=>by
  have hc : ∀ (s:Fin 5),s.val*CB 9 s.val≤1000000:=by decide +kernel
  exact Nat.le_trans (Nat.le_mul_of_pos_left _ h0) (hc ⟨S.length,by omega⟩))
 exact ⟨qs,d,w,h⟩
theorem kset_of {n:Nat} {M F:Mx} (hn:n≤4) (hM:Rect n M) (hm : ∀ r∈M,∀ z∈r,z.natAbs≤9) (hF:HnfOf n M F) : ∃ ps d w,KSet n (latM M) ps F (CB 9 F.length) d w:=by
 obtain ⟨⟨ps,hH⟩,h1,h2⟩:=hF
 have hL : ∀ v∈latM M,∀ j,(v j).natAbs≤9:=fun v hv j=>by
  obtain ⟨l,hl,rfl⟩:=List.mem_map.1 hv
  show (l.getD j 0).natAbs≤9
  rw [List.getD_eq_getElem?_getD]
  rcases Nat.lt_or_ge j l.length with hj | hj
  ·rw [List.getElem?_eq_getElem hj]; exact hm l hl _ (List.getElem_mem hj)
  ·rw [List.getElem?_eq_none hj]; simp
 have hfr : ∀ v∈latM M,∀ i,n≤i→v i=0:=fun v hv i hi=>by
  obtain ⟨l,hl,rfl⟩:=List.mem_map.1 hv
  exact vr_far (by rw [hM l hl]; exact hi)
 obtain ⟨k1,k2,d,w,hD⟩:=duals_of hn hH hL (D:=1) (by decide) (fun v hv=>sc_span 1 (h1 v hv))
 rcases Nat.eq_zero_or_pos F.length with h0 | h0
 ·refine ⟨ps,1,w,hH,h2,h1,⟨by decide,fun k hk=>by omega,fun k hk=>by omega,fun k hk=>by omega⟩,?_,hfr⟩
  rw [h0]; decide
 ·refine ⟨ps,d,w,hH,h2,h1,hD,?_,hfr⟩
  have:=hD.abs 0 h0 (ps.getD 0 0)
  rwa [hD.at' 0 h0 0 h0,if_pos rfl] at this
theorem ent_le {F:Mx} {C:Nat} (h : ∀ i,i<F.length → ∀ j,(eM F i j).natAbs≤C) : ∀ r∈F,∀ z∈r,z.natAbs≤C:=fun r hr z hz=>by
 obtain ⟨i,hi,rfl⟩:=List.getElem_of_mem hr
 obtain ⟨j,hj,rfl⟩:=List.getElem_of_mem hz
 have:=h i hi j
 unfold eM at this
 rwa [getD_get hi,getD_get hj] at this
def trM (n:Nat) (M:Mx):Mx:=(List.range n).map fun c=>M.map fun r=>r.getD c 0
@[simp] theorem trM_length (n:Nat) (M:Mx):(trM n M).length=n:=by simp [trM]
theorem trM_rect (n:Nat) (M:Mx):Rect M.length (trM n M):=fun r hr=>by
 obtain ⟨c,_,rfl⟩:=List.mem_map.1 hr
 simp
theorem trM_get {n:Nat} (M:Mx) {c:Nat} (h:c<n):(trM n M)[c]'(by simpa using h)=M.map fun r=>r.getD c 0:=by simp [trM]
theorem trM_en {n:Nat} (M:Mx) {c j:Nat} (h:c<n) (hj:j<M.length):eM (trM n M) c j=vr M[j] c:=by
 have e:(trM n M).getD c []=M.map fun r=>r.getD c 0:=by rw [getD_get (by simpa using h)]; exact trM_get M h
 unfold eM
 rw [e,getD_get (by simpa using hj)]
 simp [vr]
theorem cmb_tr {n:Nat} (M:Mx) (y:V) {j:Nat} (hj:j<M.length):cmb (trM n M) y j=dotV n (vr M[j]) y:=by
 unfold cmb dotV
 rw [trM_length]
 exact sumZ_congr fun i hi=>by rw [trM_en M hi hj]; exact Int.mul_comm _ _
theorem ker_of_wide {n:Nat} {M H:Mx} (hH:HnfOf (M.length+n) (wideM (trM n M)) H):KerL n (latM M) (krn M.length H):=by
 have h:=krn_form (c:=M.length) (M:=trM n M) (trM_rect n M) (by rw [trM_length]; exact hH)
 obtain ⟨qs,h1,h2⟩:=h
 rw [trM_length] at h1 h2
 refine ⟨⟨qs,h1⟩,fun y=>(h2 y).trans ⟨fun h=>⟨fun v hv => ?_,h.2⟩,fun h=>⟨fun j hj => ?_,h.2⟩⟩⟩
 ·obtain ⟨r,hr,rfl⟩:=List.mem_map.1 hv
  obtain ⟨j,hj,rfl⟩:=List.getElem_of_mem hr
  rw [← cmb_tr M y hj]; exact h.1 j hj
 ·rw [cmb_tr M y hj]
  exact h.1 _ (List.mem_map.2 ⟨M[j],List.getElem_mem hj,rfl⟩)
theorem KerL.of_form {n:Nat} {M F K:Mx} (hF:HnfOf n M F) (hK:KerL n (latM F) K):KerL n (latM M) K :=
 ⟨hK.1,fun y=>(hK.2 y).trans ⟨fun h=>⟨fun v hv=>span_dot h.1 (hF.2.2 v hv),h.2⟩,fun h=>⟨fun v hv=>span_dot h.1 (hF.2.1 v hv),h.2⟩⟩⟩
theorem rect_far {n:Nat} {M:Mx} (h:Rect n M) : ∀ v∈latM M,∀ i,n≤i→v i=0:=fun v hv i hi=>by
 obtain ⟨l,hl,rfl⟩:=List.mem_map.1 hv
 exact vr_far (by rw [h l hl]; exact hi)
theorem two_kernels {n:Nat} {M F K S:Mx} (hn:n≤4) (hM:Rect n M) (hm : ∀ r∈M,∀ z∈r,z.natAbs≤9) (hF:HnfOf n M F) (hK:KerL n (latM F) K) (hS:KerL n (latM K) S) :
  (∀ r∈K,∀ z∈r,z.natAbs≤1000000)∧(∀ r∈S,∀ z∈r,z.natAbs≤1000000)∧(∀ K',KerL n (latM S) K'→K'=K)∧(∀ A S',KerL n (latM S) A→KerL n (latM A) S'→S'=S)∧(∃ qs d w,KSet n (latM K) qs K 1000000 d w) ∧ ∃ qs d w,KSet n (latM S) qs S 1000000 d w:=by
 obtain ⟨ps,d,w,h⟩:=kset_of hn hM hm hF
 have hK2:=hK.of_form hF
 have hL : ∀ v∈latM M,∀ j,(v j).natAbs≤9:=fun v hv j=>by
  obtain ⟨l,hl,rfl⟩:=List.mem_map.1 hv
  show (l.getD j 0).natAbs≤9
  rw [List.getD_eq_getElem?_getD]
  rcases Nat.lt_or_ge j l.length with hj | hj
  ·rw [List.getElem?_eq_getElem hj]; exact hm l hl _ (List.getElem_mem hj)
  ·rw [List.getElem?_eq_none hj]; simp
 have h3 : ∀ K',KerL n (latM S) K'→K'=K:=fun K' h'=>KerL.three (rect_far hM) hK2 hS h'
 refine ⟨ent_le (h.ker_b hn hK2),ent_le (h.sat_b hn hK2 hS hL),h3,fun A S' hA hS' => ?_,h.ker_k hn hK2,h.sat_k hn hK2 hS hL⟩
 rw [h3 A hA] at hS'
 exact hS'.unique hS fun _=>Iff.rfl
end Go.Proofs.YtjnpakablgommaaGreatDoor
namespace Go.Proofs.YtjnpakablgommaaGreatDoor
open Go.RowKit Go.Sort
theorem Lr.lgsTake {B:Nat} {w:World} {g cap N n d:Nat} {ad:List (Nat×Nat)} {ls:List Ln} (h:Lr B w g cap N n ad ls) (hn:0<n) (hd:d≤N) (hcap:d≤cap):LgsR w (slv g d cap) (fRows d ls):=by
 have hl:(fRows d ls).length=d:=fRows_length (by rw [h.len]; exact hd)
 have hO:=h.grl.outer
 have hal:ad.length=N:=by rw [h.grl.len,rowsL_length,h.len]
 refine ⟨_,g,0,cap,(hdV ad (rowsL ls)).take d,by rw [hl],by rw [hl]; exact hcap,by rw [hl,List.length_take,hdV_length _ _ h.grl.len,rowsL_length,h.len]; omega,hO.sl.take d,fun i hi hi' => ?_⟩
 rw [hl] at hi
 have hir:i<(rowsL ls).length:=by rw [rowsL_length,h.len]; omega
 have hg:=hdV_get ad (rowsL ls) i (by omega) hir
 obtain ⟨_,he⟩:=List.getElem?_eq_some_iff.1 hg
 rw [List.getElem_take,he]
 have hrl:(rowsL ls)[i].length=n:=h.rect _ (List.getElem_mem hir)
 have hrow:=h.gr.row i hir (by omega) (by omega)
 have hf:(fRows d ls)[i]'(by rw [hl]; exact hi)=(rowsL ls)[i]:=by
  rw [fRows_get hi (by rw [h.len]; exact hd), ← rowsL_getD,getD_get hir]
 rw [hf,xv_pos (by omega)]
 exact hrow.intsR rfl
theorem bc_num : ∀ (n k:Fin 5),2*(2*bC n.val 30 (k.val+n.val)+2)+2<LIM:=by decide +kernel
theorem krn_mem {c:Nat} {H:Mx} {P:Int→Prop} (h : ∀ r∈H,∀ z∈r,P z) (h0:P 0) (i j:Nat):P (eM (krn c H) i j):=by
 show P (((krn c H).getD i []).getD j 0)
 rw [List.getD_eq_getElem?_getD (l:=krn c H)]
 cases e:(krn c H)[i]? with
 | none=>exact h0
 | some r =>
  show P (r.getD j 0)
  rw [List.getD_eq_getElem?_getD]
  cases e2:r[j]? with
  | none=>exact h0
  | some z =>
   show P z
   obtain ⟨hi,rfl⟩:=List.getElem?_eq_some_iff.1 e
   obtain ⟨hj,rfl⟩:=List.getElem?_eq_some_iff.1 e2
   have hm:=List.getElem_mem hi
   unfold krn low at hm
   obtain ⟨s,hs,hse⟩:=List.mem_map.1 hm
   have h2:(krn c H)[i][j]∈List.drop c s:=by
    have:=List.getElem_mem hj
    rw [hse]
    exact this
   exact h s (List.mem_filter.1 hs).1 _ (List.mem_of_mem_drop h2)
theorem trM_ent {n:Nat} {M:Mx} {P:Int→Prop} (h : ∀ r∈M,∀ z∈r,P z) (h0:P 0) : ∀ r∈trM n M,∀ z∈r,P z:=fun r hr z hz=>by
 obtain ⟨c,_,rfl⟩:=List.mem_map.1 hr
 obtain ⟨s,hs,rfl⟩:=List.mem_map.1 hz
 rw [List.getD_eq_getElem?_getD]
 cases e:s[c]? with
 | none=>simpa using h0
 | some z =>
  obtain ⟨hc,rfl⟩:=List.getElem?_eq_some_iff.1 e
  simpa using h s hs _ (List.getElem_mem hc)
theorem wide_rect2 {n k:Nat} {A:Mx} (hA:Rect k A) (hn:A.length=n):Rect (k+n) (wideM A):=fun r hr=>by
 obtain ⟨i,hi,rfl⟩:=List.getElem_of_mem hr
 have hi':i<A.length:=by simpa using hi
 rw [wideM_get hi',List.length_append,hA _ (List.getElem_mem hi')]
 simp [unitR,hn]
def LkPost (w:World) (M:Mx) (n:Nat) (e:Ending) (w':World):Prop := ∃ v' K,e = .returned v'∧LgsR w' v' K∧KerL n (latM M) K∧Ext w w'
set_option maxHeartbeats 4000000 in
theorem lkernel_any {w : World} {v : Value} {M : Mx} {n : Nat} (hM : LgsR w v M) (hR : Rect n M) (h0 : 0 < n) (hn : n ≤ 4) (hl : M.length ≤ 4) (hent : ∀ r ∈ M, ∀ z ∈ r, -1000000000 ≤ z ∧ z ≤ 1000000000) (hL : Laid w) :
    Calls Tryz.prog 197 #[v,.int .i64 n] w (LkPost w M n):=by
  obtain ⟨sa,gb,go,cap,vs,rfl,hcap,hvl,hS,hr⟩:=hM
  have HS:=Lib.hid hS
  have HV:=Lib.hid hvl
  have HR:=Lib.hid hr
  have HRe:=Lib.hid hR
  have HL:=Lib.hid hL
  obtain ⟨k,hk⟩ : ∃ k,k=M.length:=⟨_,rfl⟩
  obtain ⟨A,hA⟩ : ∃ A,A=trM n M:=⟨_,rfl⟩
  have hAr:Rect k A:=by rw [hA,hk]; exact trM_rect n M
  have hAl:A.length=n:=by rw [hA]; simp
  have HAl:=Lib.hid hAl
  have HAr:=Lib.hid hAr
  have HA:=Lib.hid hA
  have HAe:=Lib.hid (show ∀ r∈A,∀ z∈r,-1000000000≤z∧z≤1000000000 by rw [hA]; exact trM_ent hent (by omega))
  have Hk:=Lib.hid hk
  have HAg:=Lib.hid (show ∀ c (h:c<A.length),A[c]=M.map fun r=>r.getD c 0 from fun c h=>by
    subst hA
    exact trM_get M (by simpa using h))
  rw [← hk] at hl hcap ⊢
  clear hS hvl hr hR hL hA hAl hAr hent hk
  go_enter Tryz.func197,Tryz.ntmps197
  go_wp2_with fail
  go_loopw [5,12] (fun wv idx wr => ∃ (c:Nat) (ad:List (Nat×Nat)),c≤n∧idx = .int .i64 c∧Hid (LrX w.heap.size wr wv ((wideM A).take c) ad)∧Ext w wr) (fun _ idx _=>n-(intOf idx).toNat)
  case atStart=>exact ⟨0,[],by omega,by go_num,Lib.hid (LrX.nil _ _),Ext.refl _⟩
  case round =>
    obtain ⟨c,ad,hc,rfl,hW,hE⟩:=hrel
    generalize wr=X at *
    by_cases hlt:c<n
    · have hci:(c:Int)<(n:Int):=by omega
      have hcA:c<A.length:=by rw [HAl.out]; exact hlt
      obtain ⟨R,hRr⟩ : ∃ R,R=A[c]:=⟨_,rfl⟩
      have HRl:=Lib.hid (show R.length=k by rw [hRr]; exact HAr.out _ (List.getElem_mem hcA))
      have HRg:=Lib.hid (show R=M.map fun r=>r.getD c 0 by rw [hRr]; exact HAg.out c hcA)
      have Hwg:=Lib.hid (show (wideM A).take (c+1)=(wideM A).take c++[R++unitR n c] by rw [take_snocM (by simpa using hcA),wideM_get hcA,HAl.out,hRr])
      have Hwl:=Lib.hid (show ((wideM A).take c).length=c by rw [List.length_take]; simp; omega)
      have Hlt:=Lib.hid hW.out.lt
      have hXw:=hE.size
      clear hRr hcA
      go_wp2_with fail
      go_loopw [7,17] (fun rv jdx wr => ∃ j:Nat,j≤k∧jdx = .int .i64 j∧Hid (IntsV X.heap.size wr rv (R.take j))∧Ext X wr) (fun _ jdx _=>k-(intOf jdx).toNat)
      case atStart=>exact ⟨0,by omega,by go_num,Lib.hid (IntsV.nil _ _),Ext.refl _⟩
      case round =>
        obtain ⟨j,hj,rfl,hO,hE2⟩:=hrel
        generalize wr=Y at *
        by_cases hjl:j<k
        · have hji:(j:Int)<(k:Int):=by omega
          have hjM:j<M.length:=by rw [← Hk.out]; exact hjl
          obtain rfl:=HS.out.addr (by rw [HV.out]; omega)
          obtain ⟨sr,br,or,cr,hrow,hrc,hSr⟩:=LgsR.row HS.out HV.out HR.out hjM
          have hrl:M[j].length=n:=HRe.out _ (List.getElem_mem hjM)
          obtain rfl:=hSr.addr (by rw [ss_length,hrl]; exact h0)
          rw [hrl] at hrow hrc
          have hrow':=(hE.trans hE2).cell hrow
          obtain ⟨z,hz⟩ : ∃ z,z=M[j].getD c 0:=⟨_,rfl⟩
          have hcz:=(hE.trans hE2).cell (hSr.cell c (I z) (by rw [hz]; simp [ss,hrl,hlt]))
          have Hjl:=Lib.hid (show (R.take j).length=j by rw [List.length_take,HRl.out]; omega)
          have Hsj:=Lib.hid (show R.take (j+1)=R.take j++[z] by
            rw [List.take_succ_eq_append_getElem (by rw [HRl.out]; exact hjl),hz]
            congr 2
            have:=HRg.out
            subst this
            simp)
          have hYs:=hE2.size
          clear hrow hSr hz hjM hrl
          go_wp2_with (at_builtin; refine app_lng rfl _ _ rfl rfl (hO.out.ext ((Ext.refl _).alloc _)) rfl (b:=Y.heap.size) (z:=z) (by go_simp) (by rw [Hjl.out]; omega) (by simp; omega) ?_; intro gg cap2 w8 hO8 hB8 hG8; rw [Hjl.out] at hO8 ⊢; rw [← Hsj.out] at hO8)
          have hE8:Ext X w8:=Below.trans (hE2.alloc (.cells #[I z] 79)) hB8
          have HO8:=Lib.hid hO8
          clear hG8 hB8 hO8
          go_wp2_with fail
          go_roundw
          case rel=>exact ⟨j+1,by omega,by go_num,HO8,hE8⟩
          case measure=>simp [intOf] <;> omega
        · have hje:j=k:=by omega
          have HO:=Lib.hid (show IntsV X.heap.size Y u7 R by have:=hO.out; rw [hje,List.take_of_length_le (by rw [HRl.out]; exact Nat.le_refl _)] at this; exact this)
          have hzr:=Lib.hid (zeros_any (w:=Y) (n:=n) (by omega) (HL.out.ext (hE.trans hE2)))
          have hYs:=hE2.size
          clear hO hje
          go_wp2_with fail
          refine hzr.out.mono ?_
          rintro e W1 ⟨gy,cy,rfl,hY,hE3⟩
          have hYb:=hY.lt
          have hY1:=hY.cell (j:=c) (by simpa using hlt)
          have hY2:=hY.frozen c
          obtain ⟨hY3,hG3⟩:=hY.set c (I 1)
          have hz49:I 1 = .string ⟨#[49]⟩:=by unfold I S; rw [show (1:Int)=((1:Nat):Int) from rfl,itoa_nat,Lib.decDigits]; rfl
          rw [← ss_set] at hY3
          rw [hz49] at hY3 hG3
          have hE4:Ext X (W1.setCell ⟨gy,c,none⟩ (.string ⟨#[49]⟩)):=ext_trans_grown (hE2.trans hE3) hG3 (by omega)
          have HY:=Lib.hid (show OwnV 79 Y.heap.size (W1.setCell ⟨gy,c,none⟩ (.string ⟨#[49]⟩)) gy cy (ss (unitR n c)) from hY3)
          have HOr:=Lib.hid (show IntsV X.heap.size (W1.setCell ⟨gy,c,none⟩ (.string ⟨#[49]⟩)) u7 R from HO.out.ext (ext_trans_grown hE3 hG3 hYb.1))
          have hun:(unitR n c).length=n:=by simp [unitR]
          have Hun:=Lib.hid hun
          have hsz:=hE4.size
          rw [List.length_replicate]
          clear hY hY3 hG3 hE3 hzr HO hun
          have HNews:=Lib.hid (show ∀ (j:Nat) (u:Value),(ss (unitR n c))[j]? = some u→(W1.setCell ⟨gy,c,none⟩ (.string ⟨#[49]⟩)).cell? ((⟨gy,0,none⟩:Addr).add j)=some u from fun j u hj=>by
            have h2:=HY.out.sl.cell j u hj
            simpa [Addr.add_lit] using h2)
          go_wp2_with (first
            | (at_builtin; refine app_lngs rfl _ _ rfl rfl HOr.out (ad:=⟨gy,0,none⟩) (c:=cy) (q:=unitR n c) (by rw [Hun.out]; rfl) HNews.out (by rw [Hun.out]; exact h0) (by rw [Hun.out,HRl.out]; omega) hsz ?_; intro gg cap6 w6 hO6 hB6 hG6 hat6; rw [HRl.out,Hun.out] at hO6 ⊢; have hE6:Ext X w6:=Below.trans hE4 hB6; have HO6:=Lib.hid (ints_ownV hO6 (by rw [List.length_append,HRl.out,Hun.out])); have hs6:=hE6.size; have hEw:=hE.trans hE6)
            | (at_builtin; refine app_longs rfl _ _ rfl (B := w.heap.size) rfl ((hW.out.ext hE6).ext ((Ext.refl _).alloc _)) rfl (b := w6.heap.size) (r := R ++ unitR n c) (g0 := gg) (c0 := cap6) (by rw [List.length_append, HRl.out, Hun.out, xv_pos (by omega)]; go_simp) (fun _ => (HO6.out.mono hXw).ext ((Ext.refl _).alloc _)) (fun _ i a b d => by
                have h1:=HO6.out.lt.1
                have h2:=(Hlt.out i a b d).2
                omega) (by rw [Hwl.out]; omega) (by simp; omega) ?_; intro gg2 cap2 w8 hO8 hB8 hG8; rw [Hwl.out, ← Hwg.out] at hO8; rw [Hwl.out]))
          have hE8:Ext w w8:=Below.trans (hEw.alloc (.cells #[slv gg (k+n) cap6] 306)) hB8
          have HO8:=Lib.hid hO8
          clear hG8 hB8 hO8
          go_wp2_with fail
          go_roundw
          case rel=>exact ⟨c+1,_,by omega,by go_num,HO8,hE8⟩
          case measure=>simp [intOf] <;> omega
    · have hce:c=n:=by omega
      have hWl:(wideM A).length=n:=by simp [HAl.out]
      have HW:=Lib.hid (show LrX w.heap.size X u5 (wideM A) ad by have:=hW.out; rw [hce,List.take_of_length_le (by omega)] at this; exact this)
      obtain ⟨ga,capw,hv,hcw,hga⟩:=HW.out.shape
      obtain ⟨gw,rfl⟩:=hga (by omega)
      rw [hWl] at hv hcw
      subst hv
      have hrect:=wide_rect2 HAr.out HAl.out
      have hG:Lr w.heap.size X gw capw n (k+n) ad (ln1 (wideM A)):=⟨by rw [rowsL_ln1]; exact HW.out,by rw [ln1_length]; exact hWl,ln1_dim hrect⟩
      have hbc:=bc_num ⟨n,by omega⟩ ⟨k,by omega⟩
      have hlf:=lform_any (w0:=w) (w:=X) hG h0 (by omega) (by omega) (by omega) hcw (wide_all HAe.out) hbc HL.out hE
      rw [show ((k+n:Nat):Int)=(k:Int)+(n:Int) by omega] at hlf
      have Hlf:=Lib.hid hlf
      have Hrect:=Lib.hid hrect
      have HG:=Lib.hid hG
      clear hW hlf hG hrect hWl hbc
      go_wp2_with fail
      refine Hlf.out.mono ?_
      rintro e W1 ⟨d,ps,ad',ls',rfl,hd,hG1,hF,hOp,hAl,hE1⟩
      have hH:HnfOf (k+n) (wideM A) (fRows d ls'):=form_of1 Hrect.out hOp hF
      have hdc:d≤capw:=by omega
      have hlg:=hG1.lgsTake (d:=d) (by omega) hd hdc
      have hfl:(fRows d ls').length=d:=fRows_length (by rw [hG1.len]; exact hd)
      have hI:=hF.isH hG1.dim
      have hHe : ∀ r∈fRows d ls',∀ z∈r,z.natAbs<2^bC n 30 (k+n):=fun r hr z hz=>by
        obtain ⟨l,hl2,rfl⟩:=List.mem_map.1 hr
        obtain ⟨i,hi,rfl⟩:=List.getElem_of_mem hl2
        have hi2:i<ls'.length:=by have:=hi; simp at this; omega
        have:=hAl i hi2
        rw [getD_get hi2] at this
        exact this.1 z (by rw [List.getElem_take] at hz; exact hz)
      have hHM:HnfOf (M.length+n) (wideM (trM n M)) (fRows d ls'):=by rw [← Hk.out, ← HA.out]; exact hH
      have hKer:=ker_of_wide hHM
      rw [← Hk.out] at hKer
      obtain ⟨qs,hq⟩:=hKer.1
      have hbc:=bc_num ⟨n,by omega⟩ ⟨k,by omega⟩
      have hbh:=behind_any (w:=W1) (c:=k) (m:=n) hlg hI.rect (fun r hr=>by
        obtain ⟨i,hi,rfl⟩:=List.getElem_of_mem hr
        have h1:=hI.pvs hi
        rw [getD_get hi] at h1
        have h2:=hI.lt i hi
        unfold pvI
        have h3:pv (fRows d ls')[i]<k+n:=h1 ▸ h2
        rw [if_pos (by rw [hI.rect _ hr]; exact h3)]) hq (krn_mem (P:=fun z=>nd z<LIM) (fun r hr z hz=>by have h5:=nd_lt2 (hHe r hr z hz); show nd z<LIM; have h3:2*(2*bC n 30 (k+n)+2)+2<LIM:=hbc; omega) (by
          have h3:2*(2*bC n 30 (k+n)+2)+2<LIM:=hbc
          show nd 0<LIM
          have h4:nd 0≤1:=nd_lt2 (z:=0) (E:=0) (by decide)
          omega)) h0 (by rw [hfl]; omega) (by omega) (HL.out.ext hE1)
      have Hbh:=Lib.hid hbh
      have HKer:=Lib.hid hKer
      clear hH hlg hfl hI hHe hHM hKer hq hbc hbh hG1 hF hOp hAl Hlf
      go_wp2_with fail
      refine Hbh.out.mono ?_
      rintro e W2 ⟨v2,rfl,hv2,hE2⟩
      have HV2:=Lib.hid hv2
      have hEE:=hE1.trans hE2
      clear hv2 Hbh
      go_wp2_with fail
      go_ret
      exact ⟨_,_,rfl,HV2.out,HKer.out,hEE⟩
set_option maxHeartbeats 1000000 in
theorem lshort_any {w : World} {ga : Option Addr} {gb go cap : Nat} {l : List Int} (hS : Sl w ga gb go (ss l)) (hl : l.length ≤ 1000000) (hb : ∀ z ∈ l, nd z ≤ LIM) (hL : Laid w) :
    Calls Tryz.prog 248 #[.slice ga l.length cap] w (SmlPost w l):=by
  obtain ⟨i0,hi,hz0,hz1,hz2⟩:=info_parts Tryz.infoInt
  have HS:=Lib.hid hS
  have HB:=Lib.hid hb
  have HL:=Lib.hid hL
  clear hS hb hL
  go_enter Tryz.func248,Tryz.ntmps248
  go_wp2_with (at_make; refine wpList_make_own _ rfl _ _ 30 rfl w.heap.size 3 i0 (.int .i64 0) 1 Tryz.underlying30 hi hz0 hz1 .i64 .i64 _ l.length rfl rfl (by omega) (by rw [hz2]; omega) (by unfold maxLen; omega) (Nat.le_refl _) ?_; intro w1 hown1 hgrow1)
  have he1:=ext_grown hgrow1
  obtain ⟨g,hg⟩ : ∃ g,g=w.heap.size:=⟨_,rfl⟩
  have Hg:=Lib.hid hg
  have Hown:=Lib.hid hown1
  rw [← hg] at Hown ⊢
  clear hg hown1 hgrow1
  go_loopw [4,14] (fun out idx wr => ∃ i:Nat,i≤l.length∧idx = .int .i64 i∧out=slv g i l.length∧Hid (wr.ownsRow g 3 1 (slv g i l.length) i (is (l.take i)))∧Hid (∀ j (h:j<l.length),j<i→grt l[j]=false)∧Ext w wr) (fun _ idx _=>l.length-(intOf idx).toNat)
  case atStart=>exact ⟨0,by omega,by go_num,rfl,Hown,Lib.hid (fun j _ h=>by omega),he1⟩
  case round =>
    obtain ⟨i,hi',rfl,rfl,HO,Hz,hE⟩:=hrel
    generalize wr=X at *
    by_cases hlt:i<l.length
    · have hii:(i:Int)<(l.length:Int):=by omega
      obtain ⟨z,hz⟩ : ∃ z,z=l[i]:=⟨_,rfl⟩
      have hc:=hE.cell (HS.out.cell i (I z) (by rw [hz]; simp [ss,hlt]))
      obtain rfl:=HS.out.addr (by simp; omega)
      have hsm:=Lib.hid (wholeSmall_any (z:=z) (w:=X) (HB.out z (by rw [hz]; exact List.getElem_mem hlt)) (HL.out.ext hE))
      have Hzz:=Lib.hid hz
      cases hgz:grt z
      · have hzb : -1000000000 ≤ z ∧ z ≤ 1000000000 := by
          unfold grt at hgz; have:=of_decide_eq_false hgz; omega
        have hin:inI64 z=true:=decide_eq_true (by omega)
        rw [hin,if_pos rfl] at hsm
        obtain ⟨hy1,hy2⟩:=hzb
        have Hgz:=Lib.hid hgz
        have hgX:=Nat.lt_of_lt_of_le (show g<X.heap.size from (World.ownsRow.lt HO.out g rfl).2) (Nat.le_refl _)
        clear hin hgz hz
        go_wp2_with (first
          | (go_at_call 78; refine hsm.out.mono ?_; rintro e W ⟨rfl,hW⟩; have hWg:g<W.heap.size:=Nat.lt_of_lt_of_le hgX hW.size)
          | (at_builtin; refine wpList_append_fits _ rfl _ _ 30 rfl g 3 i0 1 Tryz.underlying30 hi hz1 g i l.length _ rfl (World.ownsRow.alloc (ownsRow_ext HO.out hW) _) ⟨W.heap.size,0,none⟩ 1 1 [.int .i64 z] rfl rfl (cell_one_new _ _ _) (one_int _ _) (by omega) ?_; intro w2 hown2 hgrow2))
        have hE2:Ext w w2:=Ext.mk' (Below.grown ((hE.trans hW).alloc _) hgrow2 (by have:=hE.size; have:=hW.size; simp; omega) (by intro q hq; injection hq with hq; have:=Hg.out; omega))
        rw [Hzz.out, ← is_take_snoc hlt] at hown2
        clear hgrow2 hW
        go_roundw
        case rel=>exact ⟨i+1,by omega,by go_num,rfl,Lib.hid hown2,Lib.hid (fun j h hj=>by
          by_cases e:j=i
          · subst e; rw [← Hzz.out]; exact Hgz.out
          · exact Hz.out j h (by omega)),hE2⟩
        case measure=>simp [intOf] <;> omega
      · have Hno:=Lib.hid (small_not hlt (by rw [← hz]; exact hgz))
        have hzb:1000000000<z∨z < -1000000000:=by
          unfold grt at hgz; exact of_decide_eq_true hgz
        clear hgz hz
        have hfin : ∀ W,Ext w W→SmlPost w l (.returned (.tuple #[.slice none 0 0,.int .i64 4])) W:=fun W hW=>by
          unfold SmlPost; rw [if_neg (by rw [Hno.out]; decide)]; exact ⟨rfl,hW⟩
        have Hfin:=Lib.hid hfin
        clear hfin
        cases hin:inI64 z
        · rw [hin,if_neg (by decide)] at hsm
          clear hin hzb
          go_wp2_with (first
            | (go_at_call 78; refine hsm.out.mono ?_; rintro e W ⟨rfl,hW⟩))
          go_ret2
          exact Hfin.out _ (hE.trans hW)
        · rw [hin,if_pos rfl] at hsm
          clear hin
          rcases hzb with hzb | hzb
          · go_wp2_with (first
              | (go_at_call 78; refine hsm.out.mono ?_; rintro e W ⟨rfl,hW⟩))
            go_ret2
            exact Hfin.out _ (hE.trans hW)
          · have hzc:z≤1000000000:=by omega
            go_wp2_with (first
              | (go_at_call 78; refine hsm.out.mono ?_; rintro e W ⟨rfl,hW⟩))
            go_ret2
            exact Hfin.out _ (hE.trans hW)
    · have hie:i=l.length:=by omega
      subst hie
      go_wp2_with fail
      go_ret2
      have hs:smallB l=true:=small_yes (fun j hj=>Hz.out j hj hj)
      refine ⟨?_,hE⟩
      rw [if_pos hs]
      refine ⟨_,rfl,g,l.length,rfl,?_⟩
      have:=HO.out
      rw [List.take_length] at this
      have h2:OwnV 3 g X g l.length (is l):=by unfold OwnV; rw [is_length]; exact this
      rw [← Hg.out]; exact h2
end Go.Proofs.YtjnpakablgommaaGreatDoor
