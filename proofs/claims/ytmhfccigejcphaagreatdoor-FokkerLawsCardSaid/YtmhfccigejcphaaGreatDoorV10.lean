/- Part 10 of the proof of the claim: contracts of the functions that it reaches, and plain laws; no condition. -/
import Derived.Test.YtmhfccigejcphaaGreatDoorV09
set_option maxRecDepth 100000
namespace Go.Proofs.YtmhfccigejcphaaGreatDoor
open Lib (hid)
def cntNZ (f:Nat→Int):Nat→Nat
 | 0=>0
 | i+1=>cntNZ f i+if f i=0 then 0 else 1
def cols (c d:Nat) (ls:List Ln) (t:Nat):Int:=col c (ls.getD (d+t) default)
def swp (ls:List Ln) (i j:Nat):List Ln:=(ls.set i (ls.getD j default)).set j (ls.getD i default)
theorem cnt_pos {f:Nat→Int} {p:Nat} (hz:f p≠0) : ∀ {N},p<N→1≤cntNZ f N
 | 0,h=>by omega
 | N+1,h=>by
  rw [cntNZ]
  by_cases e:p=N
  ·subst e; rw [if_neg hz]; omega
  ·have:=cnt_pos hz (N:=N) (by omega); omega
theorem cnt_two {f:Nat→Int} {p s:Nat} (hz:f p≠0) (hy:f s≠0) (hne:p≠s) : ∀ {N},p<N→s<N→2≤cntNZ f N
 | 0,h,_=>by omega
 | N+1,h,h'=>by
  rw [cntNZ]
  by_cases e:p=N
  ·subst e; rw [if_neg hz]; have:=cnt_pos hy (N:=p) (by omega); omega
  ·by_cases e2:s=N
   ·subst e2; rw [if_neg hy]; have:=cnt_pos hz (N:=s) (by omega); omega
   ·have:=cnt_two hz hy hne (N:=N) (by omega) (by omega); omega
theorem cnt_one {f:Nat→Int} {p N:Nat} (hz:f p≠0) (hp:p<N) (h:cntNZ f N=1) : ∀ t,t<N→t≠p→f t=0:=fun t ht hne =>
 Classical.byContradiction fun hy=>by have:=cnt_two hz hy (Ne.symm hne) hp ht; omega
theorem cnt_more {f:Nat→Int} {p:Nat} : ∀ {N},(∀ s,s<N→s≠p→f s=0)→cntNZ f N≤1∧(N≤p→cntNZ f N=0)
 | 0,_=>⟨by simp [cntNZ],fun _=>rfl⟩
 | N+1,h=>by
  have ih:=cnt_more (f:=f) (p:=p) (N:=N) (fun s hs=>h s (by omega));rw [cntNZ]
  by_cases e:N=p
  ·subst e; have:=ih.2 (Nat.le_refl _); constructor
   ·split <;> omega
   ·omega
  ·rw [if_pos (h N (by omega) e)]; exact ⟨by omega,fun h'=>by have:=ih.2 (by omega); omega⟩
theorem cnt_other {f:Nat→Int} {p N:Nat} (h:cntNZ f N≠1) (hz:f p≠0) (hp:p<N) : ∃ s,s<N∧s≠p∧f s≠0:=by
 refine Classical.byContradiction fun hc=>h ?_
 have:=(cnt_more (f:=f) (p:=p) (N:=N) (fun s hs hne=>Classical.byContradiction fun hy=>hc ⟨s,hs,hne,hy⟩)).1;have:=cnt_pos hz hp;omega
theorem getD_set {α:Type} (l:List α) (i t:Nat) (v d:α) (h:i<l.length):(l.set i v).getD t d=if t=i then v else l.getD t d:=by
 simp only [List.getD_eq_getElem?_getD]
 by_cases e:t=i
 ·subst e; rw [List.getElem?_set_self h,if_pos rfl]; rfl
 ·rw [List.getElem?_set_ne (Ne.symm e),if_neg e]
@[simp] theorem swp_length (ls:List Ln) (i j:Nat):(swp ls i j).length=ls.length:=by simp [swp]
theorem swp_getD (ls:List Ln) {i j:Nat} (hi:i<ls.length) (hj:j<ls.length) (t:Nat):(swp ls i j).getD t default=if t=j then ls.getD i default else if t=i then ls.getD j default else ls.getD t default:=by
 unfold swp;rw [getD_set _ _ _ _ _ (by simpa using hj),getD_set _ _ _ _ _ hi]
theorem getD_get {α:Type} {l:List α} {i:Nat} (h:i<l.length) (d:α):l.getD i d=l[i]:=by simp [List.getD_eq_getElem?_getD,List.getElem?_eq_getElem h]
theorem swp_step {d:Nat} (ls:List Ln) {i j:Nat} (hi:i<ls.length) (hj:j<ls.length) (di:d≤i) (dj:d≤j):Step d ls (swp ls i j):=by
 have:=Step.swap ls i j hi hj di dj;unfold swp;rw [getD_get hi,getD_get hj]; exact this
theorem cols_swp (c d:Nat) {ls:List Ln} {p N:Nat} (hN:ls.length=d+N) (hp:p<N):cols c d (swp ls d (d+p))=swf (cols c d ls) p:=by
 funext t
 unfold cols swf;rw [swp_getD ls (by omega) (by omega)]
 by_cases e:t=p
 ·subst e; simp
 ·rw [if_neg (by omega),if_neg e]
  by_cases e2:t=0
  ·subst e2; simp
  ·rw [if_neg (by omega),if_neg e2]
theorem redTo_getD (c d j:Nat) {ls:List Ln} {i:Nat} (h:i<ls.length):(redTo c d j ls).getD i default=if d<i∧i≤d+j then redL c (ls.getD d default) (ls.getD i default) else ls.getD i default:=by
 rw [getD_get (by simpa using h),redTo_get c d j ls i h,getD_get h]
theorem redTo_stepD (c d j:Nat) (ls:List Ln) (h:d+j+1<ls.length) :
  redTo c d (j+1) ls=(redTo c d j ls).set (d+(j+1)) (lsub ((cols c d (redTo c d j ls) (j+1)).fdiv (cols c d (redTo c d j ls) 0)) ((redTo c d j ls).getD (d+(j+1)) default) ((redTo c d j ls).getD (d+0) default)):=by
 rw [redTo_step c d j ls h];unfold cols;rw [getD_get (show d+(j+1)<(redTo c d j ls).length by simp; omega),getD_get (show d+0<(redTo c d j ls).length by simp; omega)];rfl
theorem Dim.getD {n m:Nat} {ls:List Ln} (h:Dim n m ls) {i:Nat} (hi:i<ls.length):(ls.getD i default).1.length=n∧(ls.getD i default).2.length=m:=by rw [getD_get hi]; exact h.get hi
theorem cols_red (c d:Nat) {ls:List Ln} {n m N:Nat} (hN:ls.length=d+N) (hd:Dim n m ls) {t:Nat} (ht:t<N):cols c d (redTo c d (N-1) ls) t=rdf (cols c d ls) t:=by
 unfold cols rdf;rw [redTo_getD c d _ (by omega)]
 by_cases e:t=0
 ·subst e; simp
 ·rw [if_neg e,if_pos (by omega)];unfold redL;rw [col_lsub _ _ (by have:=hd.getD (i:=d) (by omega); have:=hd.getD (i:=d+t) (by omega); omega)];rfl
def GG (c d N k:Nat) (ls:List Ln):Prop :=
 (∀ t,t<N→All (fun z=>z.natAbs<2^k) (ls.getD (d+t) default)) ∨
 (SS (cols c d ls) N ∧ ∀ t,t<N→All (fun z=>z.natAbs*prd (cols c d ls) N≤2^(k*(N+2)+1)) (ls.getD (d+t) default))
theorem powE (k N:Nat):2^(k*(N+2)+1)=2^k*2^k*2^(k*N)*2:=by
 rw [show k*(N+2)+1=k+k+k*N+1 by grind,Nat.pow_succ,Nat.pow_add,Nat.pow_add]
theorem GG.lt {c d N k:Nat} {ls:List Ln} (h:GG c d N k ls) : ∀ t,t<N→All (fun z=>z.natAbs<2^(k*(N+2)+2)) (ls.getD (d+t) default):=by
 intro t ht;have e:2^(k*(N+2)+2)=2^(k*(N+2)+1)*2:=Nat.pow_succ _ _;have p0:0<2^(k*(N+2)+1):=Nat.pow_pos (by omega)
 rcases h with h | ⟨_,h⟩
 ·refine (h t ht).mono fun z hz=>Nat.lt_of_lt_of_le hz ?_
  exact Nat.pow_le_pow_right (by omega) (by have:k*(N+2)=k*N+k*2:=Nat.mul_add _ _ _; omega)
 ·refine (h t ht).mono fun z hz => ?_
  have:=Nat.le_mul_of_pos_right z.natAbs (prd_pos (cols c d ls) N);omega
theorem swp_all {Q:Int→Prop} {d:Nat} {ls:List Ln} {p N:Nat} (hN:ls.length=d+N) (hp:p<N) (h : ∀ t,t<N→All Q (ls.getD (d+t) default)) : ∀ t,t<N→All Q ((swp ls d (d+p)).getD (d+t) default):=by
 intro t ht;rw [swp_getD ls (by omega) (by omega)];split
 ·exact h 0 (by omega)
 ·split
  ·exact h p hp
  ·exact h t ht
theorem swp_best {c d:Nat} {ls:List Ln} {p N:Nat} (hN:ls.length=d+N) (hp:p<N) (hm : ∀ t,t<N→cols c d ls t≠0→(cols c d ls p).natAbs≤(cols c d ls t).natAbs) :
  ∀ t,t<N→cols c d (swp ls d (d+p)) t≠0→(cols c d (swp ls d (d+p)) 0).natAbs≤(cols c d (swp ls d (d+p)) t).natAbs:=by
 rw [cols_swp c d hN hp]
 have e0:swf (cols c d ls) p 0=cols c d ls p:=by
  unfold swf; by_cases e:0=p
  ·subst e; rw [if_pos rfl]
  ·rw [if_neg e,if_pos rfl]
 rw [e0];intro t ht hz;unfold swf at *;split at hz
 ·rw [if_pos ‹_›]; exact hm 0 (by omega) hz
 ·rw [if_neg ‹_›];split at hz
  ·rw [if_pos ‹_›]; exact Nat.le_refl _
  ·rw [if_neg ‹_›]; exact hm t ht hz
theorem swp_zero {c d:Nat} {ls:List Ln} {p N:Nat} (hN:ls.length=d+N) (hp:p<N):cols c d (swp ls d (d+p)) 0=cols c d ls p:=by
 rw [cols_swp c d hN hp];unfold swf; by_cases e:0=p
 ·subst e; rw [if_pos rfl]
 ·rw [if_neg e,if_pos rfl]
theorem GG.swp {c d N k p:Nat} {ls:List Ln} (h:GG c d N k ls) (hN:ls.length=d+N) (hp:p<N):GG c d N k (swp ls d (d+p)):=by
 rcases h with h | ⟨hS,h⟩
 ·exact .inl (swp_all hN hp h)
 ·right
  rw [cols_swp c d hN hp,prd_swf _ hp];refine ⟨?_,swp_all hN hp h⟩
  rcases hS with hS | hS
  ·left; intro t ht; unfold swf; split
   ·exact hS 0 (by omega)
   ·split
    ·exact hS p hp
    ·exact hS t ht
  ·right; intro t ht; unfold swf; split
   ·exact hS 0 (by omega)
   ·split
    ·exact hS p hp
    ·exact hS t ht
theorem GG.red {c d N k n m:Nat} {ls:List Ln} (h:GG c d N k ls) (hN:ls.length=d+N) (hd:Dim n m ls) (hz:cols c d ls 0≠0) (hm : ∀ t,t<N→cols c d ls t≠0→(cols c d ls 0).natAbs≤(cols c d ls t).natAbs) :
  GG c d N k (redTo c d (N-1) ls):=by
 have hc : ∀ t,t<N→cols c d (redTo c d (N-1) ls) t=rdf (cols c d ls) t:=fun t ht=>cols_red c d hN hd ht
 have hle:=rdf_le (cols c d ls) hz hm
 right
 rw [prd_congr hc];constructor
 ·rcases rdf_ss (cols c d ls) N hz with h | h
  ·exact .inl fun t ht=>by rw [hc t ht]; exact h t ht
  ·exact .inr fun t ht=>by rw [hc t ht]; exact h t ht
 intro t ht;rw [redTo_getD c d _ (by omega)];have q0:0<2^k:=Nat.pow_pos (by omega);have q1:0<2^(k*N):=Nat.pow_pos (by omega)
 rcases h with h | ⟨hS,h⟩
 ·have hP:prd (rdf (cols c d ls)) N≤2^(k*N):=prd_pow k fun s hs=>Nat.lt_of_le_of_lt (hle s hs) ((h s hs).col (Q:=fun z=>z.natAbs<2^k) (by simpa using q0) c)
  have A0:=h 0 (by omega);have At:=h t ht;have ct:=At.col (Q:=fun z=>z.natAbs<2^k) (by simpa using q0) c;rw [powE]
  have key : ∀ z:Nat,z≤2^k+2^k*2^k→z*prd (rdf (cols c d ls)) N≤2^k*2^k*2^(k*N)*2:=by
   intro z hz;have h1:2^k≤2^k*2^k:=Nat.le_mul_of_pos_right _ q0;have h2:z≤2^k*2^k*2:=by omega
   calc z*prd (rdf (cols c d ls)) N≤(2^k*2^k*2)*2^(k*N):=Nat.mul_le_mul h2 hP
    _=_:=by grind
  split
  ·have hcd:(ls.getD (d+t) default)=(ls.getD (d+t) default):=rfl;unfold redL;refine All.lsub _ (Q:=fun z=>z.natAbs<2^k) (R:=fun z=>z.natAbs<2^k) ?_ ?_ At A0
   ·intro x hx; exact key _ (by have:=Nat.zero_le (2^k*2^k); omega)
   ·intro x y hx hy;refine key _ ?_;have h1:(col c (ls.getD (d+t) default)).fdiv (col c (ls.getD d default))=(cols c d ls t).fdiv (cols c d ls 0):=rfl;rw [h1];have h2:=fdiv_abs (cols c d ls t) hz
    have h3:((cols c d ls t).fdiv (cols c d ls 0)*y).natAbs≤2^k*2^k:=by
     rw [Int.natAbs_mul];refine Nat.mul_le_mul ?_ (Nat.le_of_lt hy);have:(cols c d ls t).natAbs<2^k:=ct;omega
    omega
  ·exact At.mono fun z hz=>key _ (by have:=Nat.zero_le (2^k*2^k); omega)
 ·have A0:=h 0 (by omega);have At:=h t ht;have hPm:prd (rdf (cols c d ls)) N≤prd (cols c d ls) N:=prd_mono hle;split
  ·rename_i hdt
   have hg:=rdf_gain (cols c d ls) hz hm hS ht (by omega);unfold redL;refine All.lsub _ (Q:=fun z=>z.natAbs*prd (cols c d ls) N≤2^(k*(N+2)+1)) (R:=fun z=>z.natAbs*prd (cols c d ls) N≤2^(k*(N+2)+1)) ?_ ?_ At A0
   ·intro x hx; exact Nat.le_trans (Nat.mul_le_mul_left _ hPm) hx
   ·intro x y hx hy;have h1:(col c (ls.getD (d+t) default)).fdiv (col c (ls.getD d default))=(cols c d ls t).fdiv (cols c d ls 0):=rfl;rw [h1];generalize (cols c d ls t).fdiv (cols c d ls 0)=q at *
    have h2:(x-q*y).natAbs≤max x.natAbs y.natAbs*(q.natAbs+1):=by
     have e1:(q*y).natAbs≤q.natAbs*max x.natAbs y.natAbs:=by rw [Int.natAbs_mul]; exact Nat.mul_le_mul_left _ (by omega)
     have e2:max x.natAbs y.natAbs*(q.natAbs+1)=q.natAbs*max x.natAbs y.natAbs+max x.natAbs y.natAbs:=by grind
     omega
    calc (x-q*y).natAbs*prd (rdf (cols c d ls)) N≤max x.natAbs y.natAbs*(q.natAbs+1)*prd (rdf (cols c d ls)) N:=Nat.mul_le_mul_right _ h2
     _=max x.natAbs y.natAbs*(prd (rdf (cols c d ls)) N*(q.natAbs+1)):=by grind
     _≤max x.natAbs y.natAbs*prd (cols c d ls) N:=Nat.mul_le_mul_left _ hg
     _≤_:=by
      rcases Nat.le_total x.natAbs y.natAbs with hxy | hxy
      ·rw [Nat.max_eq_right hxy]; exact hy
      ·rw [Nat.max_eq_left hxy]; exact hx
  ·exact At.mono fun z hz=>Nat.le_trans (Nat.mul_le_mul_left _ hPm) hz
structure SwR (c d N k:Nat) (ls ls':List Ln) (r:Bool):Prop where
 ops:Ops d ls ls'
 small : ∀ t,t<N→All (fun z=>z.natAbs<2^(k*(N+2)+2)) (ls'.getD (d+t) default)
 no:r=false → ∀ t,t<N→cols c d ls' t=0
 yes:r=true→0<N∧cols c d ls' 0≠0 ∧ ∀ t,0<t→t<N→cols c d ls' t=0
theorem swr_no {c d N k:Nat} {ls ls1:List Ln} (ho:Ops d ls ls1) (hG:GG c d N k ls1) (h : ∀ t,t<N→cols c d ls1 t=0):SwR c d N k ls ls1 false :=
 ⟨ho,hG.lt,fun _=>h,fun h=>by cases h⟩
theorem swr_yes {c d N k p:Nat} {ls ls1:List Ln} (ho:Ops d ls ls1) (hN:ls1.length=d+N) (hG:GG c d N k ls1) (hp:p<N) (hz:cols c d ls1 p≠0) (hcnt:cntNZ (cols c d ls1) N=1):SwR c d N k ls (swp ls1 d (d+p)) true:=by
 refine ⟨.step ho (swp_step ls1 (by omega) (by omega) (by omega) (by omega)),(hG.swp hN hp).lt,(fun h=>by cases h),fun _=>⟨by omega,by rw [swp_zero hN hp]; exact hz,fun t h0 ht => ?_⟩⟩;rw [cols_swp c d hN hp];have h1:=cnt_one hz hp hcnt;unfold swf;split
 ·rename_i e; subst e; exact h1 0 (by omega) (by omega)
 ·rw [if_neg (by omega)]; exact h1 t ht ‹_›
theorem sw_less {c d N n m p:Nat} {ls:List Ln} (hN:ls.length=d+N) (hd:Dim n m ls) (hp:p<N) (hz:cols c d ls p≠0) (hm : ∀ t,t<N→cols c d ls t≠0→(cols c d ls p).natAbs≤(cols c d ls t).natAbs) (hcnt:cntNZ (cols c d ls) N≠1) :
  sm (cols c d (redTo c d (N-1) (swp ls d (d+p)))) N<sm (cols c d ls) N:=by
 have hd2:Dim n m (swp ls d (d+p)):=hd.step (swp_step (d:=d) ls (by omega) (by omega) (by omega) (by omega));have hN2:(swp ls d (d+p)).length=d+N:=by simpa using hN
 rw [sm_congr (fun t ht=>cols_red c d hN2 hd2 ht), ← sm_swf (cols c d ls) hp, ← cols_swp c d hN hp];obtain ⟨s,hs,hsp,hsz⟩:=cnt_other hcnt hz hp;have h0:cols c d (swp ls d (d+p)) 0≠0:=by rw [swp_zero hN hp]; exact hz
 by_cases e:s=0
 ·subst e;refine rdf_lt _ h0 (swp_best hN hp hm) hp (by omega) ?_;rw [cols_swp c d hN hp]; unfold swf; rw [if_pos rfl]; exact hsz
 ·refine rdf_lt _ h0 (swp_best hN hp hm) hs e ?_;rw [cols_swp c d hN hp]; unfold swf; rw [if_neg hsp,if_neg e]; exact hsz
def en (ls:List Ln) (i j:Nat):Int:=col j (ls.getD i default)
theorem en_set (ls:List Ln) {i:Nat} (hi:i<ls.length) (l:Ln) (t j:Nat):en (ls.set i l) t j=if t=i then col j l else en ls t j:=by
 unfold en;rw [getD_set _ _ _ _ _ hi];split <;> rfl
theorem Step.zero {d n m j:Nat} {a b:List Ln} (h:Step d a b) (hd:Dim n m a) (hz : ∀ i,d≤i→i<a.length→en a i j=0) : ∀ i,d≤i→i<b.length→en b i j=0:=by
 intro i hi hl;rw [h.length] at hl
 cases h with
 | swap p q hp hq dp dq =>
  rw [en_set _ (by simpa using hq),en_set _ hp];have e1:=hz p dp hp;have e2:=hz q dq hq;unfold en at e1 e2;rw [getD_get hp] at e1;rw [getD_get hq] at e2;split
  ·exact e1
  ·split
   ·exact e2
   ·exact hz i hi hl
 | sub p q k hp hq hpq dp dq =>
  rw [en_set _ hp];split
  ·have e1:=hz p dp hp;have e2:=hz q dq hq;unfold en at e1 e2;rw [getD_get hp] at e1;rw [getD_get hq] at e2;rw [col_lsub _ _ (by rw [(hd.get hp).1,(hd.get hq).1]; exact Nat.le_refl _),e1,e2]; simp
  ·exact hz i hi hl
 | neg p hp dp =>
  rw [en_set _ hp];split
  ·have e1:=hz p dp hp;unfold en at e1;rw [getD_get hp] at e1;rw [col_lneg,e1]; rfl
  ·exact hz i hi hl
theorem Ops.zero {d n m j:Nat} {a b:List Ln} (h:Ops d a b) (hd:Dim n m a) (hz : ∀ i,d≤i→i<a.length→en a i j=0) : ∀ i,d≤i→i<b.length→en b i j=0:=by
 induction h with
 | refl=>exact hz
 | step o s ih=>exact s.zero (hd.ops o) ih
theorem Ops.en_ahead {d:Nat} {a b:List Ln} (h:Ops d a b) {i:Nat} (hi:i<d) (j:Nat):en b i j=en a i j:=by
 unfold en;rw [List.getD_eq_getElem?_getD,List.getD_eq_getElem?_getD,h.ahead hi]
structure FormTo (c d:Nat) (ps:List Nat) (ls:List Ln):Prop where
 len:ps.length=d
 le:d≤ls.length
 lt : ∀ i,i<d→ps.getD i 0<c
 inc : ∀ i k,i<k→k<d→ps.getD i 0<ps.getD k 0
 left : ∀ i,i<d → ∀ j,j<ps.getD i 0→en ls i j=0
 pos : ∀ i,i<d→0<en ls i (ps.getD i 0)
 red : ∀ i k,i<k→k<d→0≤en ls i (ps.getD k 0)∧en ls i (ps.getD k 0)<en ls k (ps.getD k 0)
 below : ∀ i,d≤i→i<ls.length → ∀ j,j<c→en ls i j=0
theorem FormTo.start (ls:List Ln):FormTo 0 0 [] ls :=
 ⟨rfl,Nat.zero_le _,fun i h=>by omega,fun i k _ h=>by omega,fun i h=>by omega,fun i h=>by omega,fun i k _ h=>by omega,fun i _ _ j h=>by omega⟩
theorem FormTo.skip {c d N k n m:Nat} {ps:List Nat} {ls ls':List Ln} (h:FormTo c d ps ls) (hd:Dim n m ls) (hN:ls.length=d+N) (hs:SwR c d N k ls ls' false):FormTo (c+1) d ps ls':=by
 have hl:=hs.ops.length;refine ⟨h.len,by omega,fun i hi=>by have:=h.lt i hi; omega,h.inc,fun i hi j hj => ?_,fun i hi => ?_,fun i k hik hk => ?_,fun i hi hi2 j hj => ?_⟩
 ·rw [hs.ops.en_ahead hi]; exact h.left i hi j hj
 ·rw [hs.ops.en_ahead hi]; exact h.pos i hi
 ·rw [hs.ops.en_ahead (by omega),hs.ops.en_ahead (by omega)]; exact h.red i k hik hk
 ·by_cases e:j=c
  ·subst e;have:=hs.no rfl (i-d) (by omega);unfold cols at this;rw [show d+(i-d)=i by omega] at this;exact this
  ·exact hs.ops.zero hd (fun i h1 h2=>h.below i h1 h2 j (by omega)) i hi hi2
def abvTo (c d j:Nat) (ls:List Ln):List Ln:=ls.mapIdx fun i l=>if i<j then redL c (ls.getD d default) l else l
@[simp] theorem abvTo_length (c d j:Nat) (ls:List Ln):(abvTo c d j ls).length=ls.length:=by simp [abvTo]
theorem abvTo_get (c d j:Nat) (ls:List Ln) (i:Nat) (h:i<ls.length):(abvTo c d j ls)[i]'(by simpa using h)=if i<j then redL c (ls.getD d default) ls[i] else ls[i]:=by
 simp [abvTo]
theorem abvTo_zero (c d:Nat) (ls:List Ln):abvTo c d 0 ls=ls:=by
 refine List.ext_getElem (by simp) fun i h1 h2 => ?_
 rw [abvTo_get _ _ _ _ _ h2,if_neg (by omega)]
theorem abvTo_getD (c d j:Nat) {ls:List Ln} {i:Nat} (h:i<ls.length):(abvTo c d j ls).getD i default=if i<j then redL c (ls.getD d default) (ls.getD i default) else ls.getD i default:=by
 rw [getD_get (by simpa using h),abvTo_get c d j ls i h,getD_get h]
theorem abvTo_step (c d j:Nat) (ls:List Ln) (h:j<d) (hd:d<ls.length) :
  abvTo c d (j+1) ls=(abvTo c d j ls).set j (lsub ((col c ((abvTo c d j ls).getD j default)).fdiv (col c ((abvTo c d j ls).getD d default))) ((abvTo c d j ls).getD j default) ((abvTo c d j ls).getD d default)):=by
 rw [abvTo_getD c d j (by omega),abvTo_getD c d j (by omega),if_neg (by omega),if_neg (by omega)];refine List.ext_getElem (by simp) fun i h1 h2 => ?_
 have hi:i<ls.length:=by simpa using h1
 rw [abvTo_get _ _ _ _ _ hi]
 by_cases hij:i=j
 ·subst hij;rw [List.getElem_set_self,if_pos (by omega),getD_get (by omega:i<ls.length)]; rfl
 ·rw [List.getElem_set_ne (Ne.symm hij),abvTo_get _ _ _ _ _ hi]
  by_cases hb:i<j
  ·rw [if_pos hb,if_pos (by omega)]
  ·rw [if_neg hb,if_neg (by omega)]
theorem abvTo_ops (c d:Nat) (ls:List Ln) (hd:d<ls.length) : ∀ j,j≤d→Ops 0 ls (abvTo c d j ls)
 | 0,_=>by rw [abvTo_zero]; exact .refl _
 | j+1,h=>by
  rw [abvTo_step c d j ls (by omega) hd,getD_get (by simp; omega),getD_get (by simp; omega)];exact .step (abvTo_ops c d ls hd j (by omega)) (.sub _ j d _ (by simp; omega) (by simp; omega) (by omega) (by omega) (by omega))
theorem en_abv {c d n m:Nat} {ls:List Ln} (hd:Dim n m ls) (hdl:d<ls.length) (j i:Nat):en (abvTo c d d ls) i j=if i<d then en ls i j-(en ls i c).fdiv (en ls d c)*en ls d j else en ls i j:=by
 unfold en
 rcases Nat.lt_or_ge i ls.length with hi | hi
 ·rw [abvTo_getD c d d hi];split
  ·unfold redL;rw [col_lsub _ _ (by rw [(hd.getD hi).1,(hd.getD hdl).1]; exact Nat.le_refl _)]
  ·rfl
 ·rw [if_neg (by omega)];simp only [List.getD_eq_getElem?_getD];rw [List.getElem?_eq_none (by simpa using hi),List.getElem?_eq_none hi]
def posAt (c d:Nat) (ls:List Ln):List Ln:=if en ls d c<0 then ls.set d (lneg (ls.getD d default)) else ls
@[simp] theorem posAt_length (c d:Nat) (ls:List Ln):(posAt c d ls).length=ls.length:=by unfold posAt; split <;> simp
theorem posAt_ops (c d:Nat) (ls:List Ln) (hd:d<ls.length):Ops d ls (posAt c d ls):=by
 unfold posAt;split
 ·rw [getD_get hd]; exact .one (.neg ls d hd (Nat.le_refl _))
 ·exact .refl _
theorem en_posAt {c d:Nat} {ls:List Ln} (hd:d<ls.length) (i j:Nat):en (posAt c d ls) i j=if i=d∧en ls d c<0 then -en ls d j else en ls i j:=by
 unfold posAt
 by_cases h:en ls d c<0
 ·rw [if_pos h,en_set _ hd]
  by_cases e:i=d
  ·rw [if_pos e,if_pos ⟨e,h⟩,col_lneg]; rfl
  ·rw [if_neg e,if_neg (by omega)]
 ·rw [if_neg h,if_neg (by omega)]
theorem FormTo.next {c d N k n m:Nat} {ps:List Nat} {ls ls':List Ln} (h:FormTo c d ps ls) (hd:Dim n m ls) (hN:ls.length=d+N) (hs:SwR c d N k ls ls' true) :
  FormTo (c+1) (d+1) (ps++[c]) (abvTo c d d (posAt c d ls')):=by
 obtain ⟨hN0,hz,hzb⟩:=hs.yes rfl;have hl:=hs.ops.length;have hdl:d<ls'.length:=by omega
 have hd':=hd.ops hs.ops;have hd2:=hd'.ops (posAt_ops c d ls' hdl);have hz':en ls' d c≠0:=hz;have hbz : ∀ j,j<c → ∀ i,d≤i→i<ls'.length→en ls' i j=0:=fun j hj=>hs.ops.zero hd (fun i h1 h2=>h.below i h1 h2 j hj)
 -- line d of the new lines
 have hdc:0<en (posAt c d ls') d c:=by rw [en_posAt hdl]; split <;> omega
 have hdz : ∀ j,j<c→en (posAt c d ls') d j=0:=fun j hj=>by
  have:=hbz j hj d (Nat.le_refl _) hdl;rw [en_posAt hdl,this]; split <;> rfl
 have hab : ∀ i j,i<d→j<c→en (abvTo c d d (posAt c d ls')) i j=en ls i j:=fun i j hi hj=>by
  rw [en_abv hd2 (by simpa using hdl),if_pos hi,hdz j hj,en_posAt hdl,if_neg (by omega),hs.ops.en_ahead hi]; simp
 have hdd : ∀ j,en (abvTo c d d (posAt c d ls')) d j=en (posAt c d ls') d j:=fun j=>by rw [en_abv hd2 (by simpa using hdl),if_neg (by omega)]
 have hps : ∀ i,i<d→(ps++[c]).getD i 0=ps.getD i 0:=fun i hi=>by
  simp only [List.getD_eq_getElem?_getD]; rw [List.getElem?_append_left (by rw [h.len]; exact hi)]
 have hpd:(ps++[c]).getD d 0=c:=by
  simp only [List.getD_eq_getElem?_getD]; rw [List.getElem?_append_right (by rw [h.len]; exact Nat.le_refl _),h.len]; simp
 have hcase : ∀ i,i<d+1→i<d∨i=d:=fun i hi=>by omega
 refine ⟨by simp [h.len],by simp; omega,fun i hi => ?_,fun i k hik hk => ?_,fun i hi j hj => ?_,fun i hi => ?_,fun i k hik hk => ?_,fun i hi hi2 j hj => ?_⟩
 ·rcases hcase i hi with hi | rfl
  ·rw [hps i hi]; have:=h.lt i hi; omega
  ·rw [hpd]; omega
 ·rw [hps i (by omega)]
  rcases hcase k hk with hk | rfl
  ·rw [hps k hk]; exact h.inc i k hik hk
  ·rw [hpd]; exact h.lt i hik
 ·rcases hcase i hi with hi | rfl
  ·rw [hps i hi] at hj;have:=h.lt i hi;rw [hab i j hi (by omega)]; exact h.left i hi j hj
  ·rw [hpd] at hj; rw [hdd]; exact hdz j hj
 ·rcases hcase i hi with hi | rfl
  ·rw [hps i hi,hab i _ hi (h.lt i hi)]; exact h.pos i hi
  ·rw [hpd,hdd]; exact hdc
 ·rcases hcase k hk with hk | rfl
  ·rw [hps k hk,hab i _ (by omega) (h.lt k hk),hab k _ hk (h.lt k hk)]; exact h.red i k hik hk
  ·rw [hpd,hdd,en_abv hd2 (by simpa using hdl),if_pos hik];exact fdr_pos hdc
 ·have hi3:i<ls'.length:=by simpa using hi2
  rw [en_abv hd2 (by simpa using hdl),if_neg (by omega),en_posAt hdl,if_neg (by omega)]
  by_cases e:j=c
  ·subst e;have:=hzb (i-d) (by omega) (by omega);unfold cols at this;rw [show d+(i-d)=i by omega] at this;exact this
  ·exact hbz j (by omega) i (by omega) hi3
def bC (L k:Nat):Nat→Nat
 | 0=>k
 | c+1=>2*(bC L k c*(L+2)+2)+1
theorem bC_le (L k c:Nat):bC L k c*(L+2)+2≤bC L k (c+1)∧bC L k c≤bC L k (c+1):=by
 rw [bC];have:bC L k c*(L+2)=bC L k c*L+bC L k c*2:=Nat.mul_add _ _ _;omega
theorem bC_mono (L k c:Nat) : ∀ e,bC L k c≤bC L k (c+e)
 | 0=>Nat.le_refl _
 | e+1=>Nat.le_trans (bC_mono L k c e) (bC_le L k (c+e)).2
def AllL (E:Nat) (ls:List Ln):Prop := ∀ i,i<ls.length→All (fun z=>z.natAbs<2^E) (ls.getD i default)
theorem AllL.mono {E F:Nat} {ls:List Ln} (h:AllL E ls) (hf:E≤F):AllL F ls:=fun i hi=>(h i hi).mono fun z hz=>Nat.lt_of_lt_of_le hz (Nat.pow_le_pow_right (by omega) hf)
theorem SwR.all {c d N k:Nat} {ls ls':List Ln} {r:Bool} (h:SwR c d N k ls ls' r) (hN:ls.length=d+N) (ha:AllL k ls):AllL (k*(N+2)+2) ls':=by
 intro i hi;rw [h.ops.length] at hi
 rcases Nat.lt_or_ge i d with hid | hid
 ·have e:ls'.getD i default=ls.getD i default:=by simp only [List.getD_eq_getElem?_getD]; rw [h.ops.ahead hid]
  rw [e];refine (ha i (by omega)).mono fun z hz=>Nat.lt_of_lt_of_le hz (Nat.pow_le_pow_right (by omega) ?_)
  have:k*(N+2)=k*N+k*2:=Nat.mul_add _ _ _;omega
 ·have:=h.small (i-d) (by omega);rwa [show d+(i-d)=i by omega] at this
theorem AllL.pos {E c d:Nat} {ls:List Ln} (h:AllL E ls) (hd:d<ls.length):AllL E (posAt c d ls):=by
 unfold posAt;split
 ·intro i hi;rw [getD_set _ _ _ _ _ hd];split
  ·exact All.lneg (fun z hz=>by rw [Int.natAbs_neg]; exact hz) (h d hd)
  ·exact h i (by simpa using hi)
 ·exact h
theorem AllL.abv {E c d j:Nat} {ls:List Ln} (h:AllL E ls) (hd:d<ls.length) (hz:en ls d c≠0):AllL (2*E+1) (abvTo c d j ls):=by
 intro i hi;have hi':i<ls.length:=by simpa using hi
 rw [abvTo_getD c d j hi'];have q0:0<2^E:=Nat.pow_pos (by omega);have e:2^(2*E+1)=2^E*2^E*2:=by rw [Nat.pow_succ,Nat.two_mul,Nat.pow_add]
 have h1:2^E≤2^E*2^E:=Nat.le_mul_of_pos_right _ q0;split
 ·unfold redL;refine All.lsub _ (Q:=fun z=>z.natAbs<2^E) (R:=fun z=>z.natAbs<2^E) ?_ ?_ (h i hi') (h d hd)
  ·intro x hx; have:x.natAbs<2^E:=hx; omega
  ·intro x y hx hy;have hx':x.natAbs<2^E:=hx;have h2:=fdiv_abs (en ls i c) hz;have h3:=(h i hi').col (Q:=fun z=>z.natAbs<2^E) (by simpa using q0) c
   have h4:((en ls i c).fdiv (en ls d c)*y).natAbs≤2^E*2^E:=by
    rw [Int.natAbs_mul];refine Nat.mul_le_mul ?_ (Nat.le_of_lt hy);have:(en ls i c).natAbs<2^E:=h3;omega
   show (x-(en ls i c).fdiv (en ls d c)*y).natAbs<_;omega
 ·exact (h i hi').mono fun z hz=>by have:z.natAbs<2^E:=hz; omega
theorem bC_next {L N k c:Nat} (hN:N≤L):2*(bC L k c*(N+2)+2)+1≤bC L k (c+1):=by
 rw [bC];have:bC L k c*(N+2)≤bC L k c*(L+2):=Nat.mul_le_mul_left _ (by omega);omega
end Go.Proofs.YtmhfccigejcphaaGreatDoor
namespace Go.Proofs.YtmhfccigejcphaaGreatDoor
open Hnf (V Span Ech Red)
open Lib (hid)
def vr (r:List Int):V:=fun j=>r.getD j 0
def latL (ls:List Ln):List V:=ls.map fun l=>vr l.1
theorem lat_get {ls:List Ln} {i:Nat} (h:i<ls.length):vr ls[i].1∈latL ls:=List.mem_map.2 ⟨ls[i],List.getElem_mem h,rfl⟩
theorem vr_sub (k:Int) {a b:List Int} (h:b.length≤a.length):vr (subK k a b)=Hnf.sub (vr a) k (vr b):=by
 funext j; exact subK_getD k a b j h
theorem vr_neg (a:List Int):vr (a.map fun z => -z)=Hnf.sub (fun _=>0) 1 (vr a):=by
 funext j; have:=col_lneg j (a,[]); simp only [col,lneg] at this; simp only [vr,Hnf.sub]; omega
theorem lat_set {ls:List Ln} {i:Nat} {l:Ln} {v:V} (h:v∈latL (ls.set i l)):v=vr l.1∨v∈latL ls:=by
 obtain ⟨x,hx,rfl⟩:=List.mem_map.1 h
 rcases List.mem_or_eq_of_mem_set hx with hx | rfl
 ·exact .inr (List.mem_map.2 ⟨x,hx,rfl⟩)
 ·exact .inl rfl
theorem Step.lat {d n m:Nat} {a b:List Ln} (h:Step d a b) (hd:Dim n m a):(∀ v∈latL b,Span (latL a) v)∧(∀ v∈latL a,Span (latL b) v):=by
 cases h with
 | swap p q hp hq dp dq =>
  constructor
  ·intro v hv
   rcases lat_set hv with rfl | hv
   ·exact .mem (lat_get hp)
   ·rcases lat_set hv with rfl | hv
    ·exact .mem (lat_get hq)
    ·exact .mem hv
  ·intro v hv;obtain ⟨l,hl,rfl⟩:=List.mem_map.1 hv;obtain ⟨i,hi,rfl⟩:=List.getElem_of_mem hl
   by_cases e:i=p
   ·subst e;have h1:q<((a.set i a[q]).set q a[i]).length:=by simpa using hq
    have:=lat_get h1;rw [List.getElem_set_self] at this;exact .mem this
   ·by_cases e2:i=q
    ·subst e2;have h1:p<((a.set p a[i]).set i a[p]).length:=by simpa using hp
     have:=lat_get h1;rw [List.getElem_set_ne (by omega),List.getElem_set_self] at this;exact .mem this
    ·have h1:i<((a.set p a[q]).set q a[p]).length:=by simpa using hi
     have:=lat_get h1;rw [List.getElem_set_ne (by omega),List.getElem_set_ne (by omega)] at this;exact .mem this
 | sub p q k hp hq hpq dp dq =>
  have hlen:a[q].1.length≤a[p].1.length:=by rw [(hd.get hp).1,(hd.get hq).1]; exact Nat.le_refl _
  constructor
  ·intro v hv
   rcases lat_set hv with rfl | hv
   ·show Span _ (vr (subK k a[p].1 a[q].1));rw [vr_sub k hlen];exact .step k (.mem (lat_get hp)) (lat_get hq)
   ·exact .mem hv
  ·intro v hv;obtain ⟨l,hl,rfl⟩:=List.mem_map.1 hv;obtain ⟨i,hi,rfl⟩:=List.getElem_of_mem hl
   have hq':vr a[q].1∈latL (a.set p (lsub k a[p] a[q])):=by
    have h1:q<(a.set p (lsub k a[p] a[q])).length:=by simpa using hq
    have:=lat_get h1;rwa [List.getElem_set_ne hpq] at this
   by_cases e:i=p
   ·subst e;have h1:i<(a.set i (lsub k a[i] a[q])).length:=by simpa using hi
    have:=lat_get h1;rw [List.getElem_set_self] at this;have h2:=Span.step (-k) (.mem this) hq'
    have e:Hnf.sub (vr (lsub k a[i] a[q]).1) (-k) (vr a[q].1)=vr a[i].1:=by
     show Hnf.sub (vr (subK k a[i].1 a[q].1)) (-k) (vr a[q].1)=vr a[i].1;rw [vr_sub k hlen]; funext j; simp only [Hnf.sub,Int.neg_mul]; omega
    rwa [e] at h2
   ·have h1:i<(a.set p (lsub k a[p] a[q])).length:=by simpa using hi
    have:=lat_get h1;rw [List.getElem_set_ne (Ne.symm e)] at this;exact .mem this
 | neg p hp dp =>
  constructor
  ·intro v hv
   rcases lat_set hv with rfl | hv
   ·show Span _ (vr (a[p].1.map fun z => -z));rw [vr_neg]; exact .step 1 .zero (lat_get hp)
   ·exact .mem hv
  ·intro v hv;obtain ⟨l,hl,rfl⟩:=List.mem_map.1 hv;obtain ⟨i,hi,rfl⟩:=List.getElem_of_mem hl
   by_cases e:i=p
   ·subst e;have h1:i<(a.set i (lneg a[i])).length:=by simpa using hi
    have:=lat_get h1;rw [List.getElem_set_self] at this;have h2:=Span.step 1 .zero this
    have e:Hnf.sub (fun _=>0) 1 (vr (lneg a[i]).1)=vr a[i].1:=by
     show Hnf.sub (fun _=>0) 1 (vr (a[i].1.map fun z => -z))=vr a[i].1;rw [vr_neg]; funext j; simp only [Hnf.sub]; omega
    rwa [e] at h2
   ·have h1:i<(a.set p (lneg a[p])).length:=by simpa using hi
    have:=lat_get h1;rw [List.getElem_set_ne (Ne.symm e)] at this;exact .mem this
theorem Ops.lat {d n m:Nat} {a b:List Ln} (h:Ops d a b) (hd:Dim n m a):(∀ v∈latL b,Span (latL a) v)∧(∀ v∈latL a,Span (latL b) v):=by
 induction h with
 | refl=>exact ⟨fun v hv => .mem hv,fun v hv => .mem hv⟩
 | step o s ih =>
  have hs:=s.lat (hd.ops o);exact ⟨fun v hv=>(hs.1 v hv).trans ih.1,fun v hv=>(ih.2 v hv).trans hs.2⟩
abbrev Mx:=List (List Int)
def latM (M:Mx):List V:=M.map vr
def Rect (n:Nat) (M:Mx):Prop := ∀ r∈M,r.length=n
def eM (F:Mx) (i j:Nat):Int:=(F.getD i []).getD j 0
structure IsH (n:Nat) (ps:List Nat) (F:Mx):Prop where
 rect:Rect n F
 len:ps.length=F.length
 lt : ∀ i,i<F.length→ps.getD i 0<n
 inc : ∀ i k,i<k→k<F.length→ps.getD i 0<ps.getD k 0
 left : ∀ i,i<F.length → ∀ j,j<ps.getD i 0→eM F i j=0
 pos : ∀ i,i<F.length→0<eM F i (ps.getD i 0)
 red : ∀ i k,i<k→k<F.length→0≤eM F i (ps.getD k 0)∧eM F i (ps.getD k 0)<eM F k (ps.getD k 0)
def wps (ps:List Nat) (F:Mx):List (Nat×V):=(ps.zip F).map fun x=>(x.1,vr x.2)
theorem wps_rows {ps:List Nat} {F:Mx} (h:ps.length=F.length):Hnf.rows (wps ps F)=latM F:=by
 unfold Hnf.rows wps latM;rw [List.map_map];show List.map (fun x=>vr x.2) (ps.zip F)=_;rw [show (fun x:Nat×List Int=>vr x.2)=vr∘Prod.snd from rfl, ← List.map_map,List.map_snd_zip (by omega)]
theorem ech_wps : ∀ (ps:List Nat) (F:Mx) (b:Nat),ps.length=F.length→(∀ i,i<F.length→b≤ps.getD i 0)→(∀ i k,i<k→k<F.length→ps.getD i 0<ps.getD k 0) →
  (∀ i,i<F.length → ∀ j,j<ps.getD i 0→eM F i j=0)→(∀ i,i<F.length→0<eM F i (ps.getD i 0))→Ech b (wps ps F)
 | [],[],_,_,_,_,_,_=>trivial
 | [],_::_,_,h,_,_,_,_=>by simp at h
 | _::_,[],_,h,_,_,_,_=>by simp at h
 | p::ps,f::F,b,hl,hb,hi,hz,hp=>by
  refine ⟨hb 0 (by simp),hz 0 (by simp),hp 0 (by simp),?_⟩;refine ech_wps ps F (p+1) (by simpa using hl) (fun i h => ?_) (fun i k hik hk => ?_) (fun i h => ?_) (fun i h => ?_)
  ·exact hi 0 (i+1) (by omega) (by simpa using h)
  ·exact hi (i+1) (k+1) (by omega) (by simpa using hk)
  ·exact hz (i+1) (by simpa using h)
  ·exact hp (i+1) (by simpa using h)
theorem red_wps : ∀ (ps:List Nat) (F:Mx),ps.length=F.length→(∀ i k,i<k→k<F.length→0≤eM F i (ps.getD k 0)∧eM F i (ps.getD k 0)<eM F k (ps.getD k 0))→Red (wps ps F)
 | [],[],_,_=>trivial
 | [],_::_,h,_=>by simp at h
 | _::_,[],h,_=>by simp at h
 | p::ps,f::F,hl,hr=>by
  refine ⟨fun g hg => ?_,red_wps ps F (by simpa using hl) fun i k hik hk=>hr (i+1) (k+1) (by omega) (by simpa using hk)⟩;obtain ⟨x,hx,rfl⟩:=List.mem_map.1 hg;obtain ⟨i,hi,hxe⟩:=List.getElem_of_mem hx;have hi':i<ps.length∧i<F.length:=by simp at hi; omega
  have:=hr 0 (i+1) (by omega) (by simpa using hi'.2);obtain rfl:x=(ps[i]'hi'.1,F[i]'hi'.2):=by rw [← hxe]; exact List.getElem_zip
  simp only [eM,List.getD_cons_succ,List.getD_cons_zero] at this;rw [getD_get hi'.1,getD_get hi'.2] at this;exact this
theorem IsH.ech {n:Nat} {ps:List Nat} {F:Mx} (h:IsH n ps F):Ech 0 (wps ps F):=ech_wps ps F 0 h.len (fun _ _=>Nat.zero_le _) h.inc h.left h.pos
theorem IsH.redu {n:Nat} {ps:List Nat} {F:Mx} (h:IsH n ps F):Red (wps ps F):=red_wps ps F h.len h.red
theorem vr_inj {n:Nat} {a b:List Int} (ha:a.length=n) (hb:b.length=n) (h:vr a=vr b):a=b:=by
 refine List.ext_getElem (by omega) fun i h1 h2 => ?_
 have:=congrFun h i;simpa only [vr,List.getD_eq_getElem?_getD,List.getElem?_eq_getElem h1,List.getElem?_eq_getElem h2,Option.getD_some] using this
theorem IsH.unique {n:Nat} {ps qs:List Nat} {F G:Mx} (hF:IsH n ps F) (hG:IsH n qs G) (h1 : ∀ v∈latM F,Span (latM G) v) (h2 : ∀ v∈latM G,Span (latM F) v):F=G∧ps=qs:=by
 have e:=Hnf.unique hF.ech hF.redu hG.ech hG.redu (by rw [wps_rows hF.len,wps_rows hG.len]; exact h1) (by rw [wps_rows hF.len,wps_rows hG.len]; exact h2)
 have e1:ps=qs:=by
  have:=congrArg (List.map Prod.fst) e;unfold wps at this;rw [List.map_map,List.map_map] at this;rw [show (Prod.fst∘fun x:Nat×List Int=>(x.1,vr x.2))=Prod.fst from rfl,List.map_fst_zip (by have:=hF.len; omega),List.map_fst_zip (by have:=hG.len; omega)] at this;exact this
 have e2:latM F=latM G:=by rw [← wps_rows hF.len, ← wps_rows hG.len,e]
 refine ⟨?_,e1⟩;have hl:F.length=G.length:=by have:=congrArg List.length e2; simpa [latM] using this
 refine List.ext_getElem hl fun i h3 h4 => ?_
 refine vr_inj (hF.rect _ (List.getElem_mem h3)) (hG.rect _ (List.getElem_mem h4)) ?_;have:=congrArg (fun l=>l[i]?) e2;simpa [latM,h3,h4] using this
def fRows (d:Nat) (ls:List Ln):Mx:=(ls.take d).map (·.1)
theorem eM_fRows {d:Nat} {ls:List Ln} {i:Nat} (h:i<d) (j:Nat) (hd:d≤ls.length):eM (fRows d ls) i j=en ls i j:=by
 unfold eM fRows en col;have hi:i<ls.length:=by omega
 simp only [List.getD_eq_getElem?_getD,List.getElem?_map,List.getElem?_take,if_pos h,List.getElem?_eq_getElem hi];rfl
theorem FormTo.isH {n d m:Nat} {ps:List Nat} {ls:List Ln} (h:FormTo n d ps ls) (hd:Dim n m ls):IsH n ps (fRows d ls):=by
 have hl:(fRows d ls).length=d:=by unfold fRows; have:=h.le; simp; omega
 refine ⟨fun r hr => ?_,by rw [hl,h.len],fun i hi => ?_,fun i k hik hk => ?_,fun i hi j hj => ?_,fun i hi => ?_,fun i k hik hk => ?_⟩
 ·obtain ⟨l,hl',rfl⟩:=List.mem_map.1 hr; exact (hd l (List.mem_of_mem_take hl')).1
 ·rw [hl] at hi; exact h.lt i hi
 ·rw [hl] at hk; exact h.inc i k hik hk
 ·rw [hl] at hi; rw [eM_fRows hi _ h.le]; exact h.left i hi j hj
 ·rw [hl] at hi; rw [eM_fRows hi _ h.le]; exact h.pos i hi
 ·rw [hl] at hk; rw [eM_fRows (by omega) _ h.le,eM_fRows hk _ h.le]; exact h.red i k hik hk
theorem FormTo.lat {n d m:Nat} {ps:List Nat} {ls:List Ln} (h:FormTo n d ps ls) (hd:Dim n m ls):(∀ v∈latM (fRows d ls),v∈latL ls)∧(∀ v∈latL ls,Span (latM (fRows d ls)) v):=by
 constructor
 ·intro v hv;obtain ⟨r,hr,rfl⟩:=List.mem_map.1 hv;obtain ⟨l,hl,rfl⟩:=List.mem_map.1 hr;exact List.mem_map.2 ⟨l,List.mem_of_mem_take hl,rfl⟩
 ·intro v hv;obtain ⟨l,hl,rfl⟩:=List.mem_map.1 hv;obtain ⟨i,hi,rfl⟩:=List.getElem_of_mem hl
  rcases Nat.lt_or_ge i d with hid | hid
  ·refine .mem (List.mem_map.2 ⟨ls[i].1,List.mem_map.2 ⟨ls[i],?_,rfl⟩,rfl⟩);have:i<(ls.take d).length:=by simp; omega
   have h2:=List.getElem_mem this;rwa [List.getElem_take] at h2
  ·have e:vr ls[i].1=fun _=>0:=by
    funext j
    rcases Nat.lt_or_ge j n with hj | hj
    ·have:=h.below i hid hi j hj;unfold en col at this;rwa [getD_get hi] at this
    ·show ls[i].1.getD j 0=0;rw [List.getD_eq_getElem?_getD,List.getElem?_eq_none (by rw [(hd.get hi).1]; exact hj)]; rfl
   rw [e]; exact .zero
def HnfOf (n:Nat) (M F:Mx):Prop:=(∃ ps,IsH n ps F)∧(∀ v∈latM F,Span (latM M) v)∧(∀ v∈latM M,Span (latM F) v)
def unitR (m i:Nat):List Int:=(List.replicate m 0).set i 1
def lines0 (M:Mx):List Ln:=M.mapIdx fun i r=>(r,unitR M.length i)
@[simp] theorem lines0_length (M:Mx):(lines0 M).length=M.length:=by simp [lines0]
end Go.Proofs.YtmhfccigejcphaaGreatDoor
namespace Go.Proofs.YtmhfccigejcphaaGreatDoor
open Go.RowKit Go.Sort
theorem grown_frozen_cell {w w':World} {g b o:Nat} {v:Value} (h:w.grownBy w' (some g)) (hne:b≠g) (hc:w.cell? ⟨b,o,none⟩=some v):w'.cell? ⟨b,o,none⟩=some v:=by
 have hb:b<w.heap.size:=World.block_lt_of_cell? _ _ hc;have:=h.block b hb (by simpa using hne);unfold World.cell? at *;rw [this]; exact hc
def negTo (j:Nat) (l:List Int):List Int:=(l.take j).map (fun z => -z)++l.drop j
theorem negTo_zero (l:List Int):negTo 0 l=l:=by simp [negTo]
theorem negTo_all (l:List Int):negTo l.length l=l.map (fun z => -z):=by simp [negTo]
@[simp] theorem negTo_length (j:Nat) (l:List Int):(negTo j l).length=l.length:=by simp [negTo]; omega
theorem negTo_get {j:Nat} {l:List Int} (h:j<l.length):(negTo j l)[j]'(by simpa using h)=l[j]:=by
 unfold negTo;rw [List.getElem_append_right (by simp; omega)];simp [Nat.min_eq_left (Nat.le_of_lt h)]
theorem negTo_step {j:Nat} {l:List Int} (h:j<l.length):negTo (j+1) l=(negTo j l).set j (-l[j]):=by
 unfold negTo;rw [List.set_append_right _ _ (by simp; omega)];rw [List.take_add_one,List.map_append,List.append_assoc]
 congr 1
 rw [List.getElem?_eq_getElem h];simp only [Option.toList_some,List.map_cons,List.map_nil,List.length_map,List.length_take,Nat.min_eq_left (Nat.le_of_lt h),Nat.sub_self]
 conv=>rhs; rw [List.drop_eq_getElem_cons h]
 rfl
structure Ad where
 gx:Nat
 cx:Nat
 gy:Nat
 cy:Nat
 deriving Inhabited
theorem nd_lt2 {z:Int} {E:Nat} (h:z.natAbs<2^E):nd z≤E+1:=by
 refine nDigits_le (Nat.lt_of_lt_of_le h ?_) (by omega);exact Nat.le_trans (Nat.pow_le_pow_left (by omega) E) (Nat.pow_le_pow_right (by omega) (by omega))
def swpA (ad:List Ad) (i j:Nat):List Ad:=(ad.set i (ad.getD j default)).set j (ad.getD i default)
@[simp] theorem swpA_length (ad:List Ad) (i j:Nat):(swpA ad i j).length=ad.length:=by simp [swpA]
def sg (i j t:Nat):Nat:=if t=j then i else if t=i then j else t
theorem sg_lt {i j t n:Nat} (hi:i<n) (hj:j<n) (ht:t<n):sg i j t<n:=by unfold sg; split <;> (try split) <;> omega
theorem sg_inj {i j t u:Nat} (h:sg i j t=sg i j u):t=u:=by unfold sg at h; split at h <;> split at h <;> (try split at h) <;> (try split at h) <;> omega
theorem grown_set (w:World) (b i:Nat) (v:Value):w.grownBy (w.setCell ⟨b,i,none⟩ v) (some b) :=
 ⟨rfl,rfl,rfl,by simp [World.setCell],fun k _ hk=>Below.heap_setCell _ _ _ _ (fun e=>hk (by simp [e]))⟩
theorem less_big {E:Nat} {q:Int} {a b:List Int} (ha : ∀ z∈a,z.natAbs<2^E) (hb : ∀ z∈b,z.natAbs<2^E) (hq:q.natAbs<2^E) (hE:2*E+2<LIM) :
  ∀ (i:Nat) (h:i<b.length) (h':i<a.length),nd a[i]<LIM∧nd (q*b[i])<LIM∧nd q+nd b[i]≤LIM:=by
 intro i h h';have h1:=nd_lt2 (ha _ (List.getElem_mem h'));have h2:=nd_lt2 (hb _ (List.getElem_mem h));have h3:=nd_lt2 hq;have h4:=nd_mul q b[i];omega
end Go.Proofs.YtmhfccigejcphaaGreatDoor
