/- Part 17 of the proof of the claim: contracts of the functions that it reaches, and plain laws; no condition. -/
import Derived.Test.YtmhfccigejcphaaGreatDoorV16
import Derived.Test.YtmhfccigejcphaaGreatDoorV14
import Derived.Test.YtmhfccigejcphaaGreatDoorV15
import Derived.Test.YtmhfccigejcphaaGreatDoorV11
set_option maxRecDepth 100000
namespace Go.Proofs.YtmhfccigejcphaaGreatDoor
open Hnf (V Span Ech Red)
theorem vr_far {l:List Int} {j:Nat} (h:l.length≤j):vr l j=0:=by
 show l.getD j 0=0;rw [List.getD_eq_getElem?_getD,List.getElem?_eq_none h]; rfl
theorem vr_take {l:List Int} {c:Nat} (j:Nat):vr (l.take c) j=if j<c then vr l j else 0:=by
 by_cases h:j<c
 ·rw [if_pos h]; exact getD_take h
 ·rw [if_neg h]; exact vr_far (by simp; omega)
theorem vr_drop (l:List Int) (c j:Nat):vr (l.drop c) j=vr l (c+j):=getD_drop l c j
theorem span_cut {c:Nat} {A B:List V} (hAB : ∀ r∈A,Span B (fun j=>if j<c then r j else 0)) {v:V} (h:Span A v):Span B (fun j=>if j<c then v j else 0):=by
 induction h with
 | zero=>exact span_of_eq .zero fun j=>by simp
 | @step v r q _ hr ih =>
  refine span_of_eq (ih.sub q (hAB r hr)) fun j => ?_
  simp only [Hnf.sub]; split <;> simp
theorem span_shift {c:Nat} {A B:List V} (hAB : ∀ r∈A,Span B (fun j=>r (c+j))) {v:V} (h:Span A v):Span B (fun j=>v (c+j)):=by
 induction h with
 | zero=>exact .zero
 | @step v r q _ hr ih=>exact ih.sub q (hAB r hr)
theorem lat_at {H:Mx} {v:V} (h:v∈latM H) : ∃ i,i<H.length∧v=vr (H.getD i []):=by
 obtain ⟨r,hr,rfl⟩:=List.mem_map.1 h;obtain ⟨i,hi,rfl⟩:=List.getElem_of_mem hr;exact ⟨i,hi,by rw [getD_get hi]⟩
theorem eM_vrD (H:Mx) (i j:Nat):vr (H.getD i []) j=eM H i j:=rfl
theorem left_form {c:Nat} {M H:Mx} (hM:Rect c M) (hH:HnfOf (c+M.length) (wideM M) H) :
  ∃ qs,IsH c qs ((upr c H).map (List.take c))∧(∀ v∈latM ((upr c H).map (List.take c)),Span (latM M) v)∧(∀ v∈latM M,Span (latM ((upr c H).map (List.take c))) v):=by
 obtain ⟨⟨ps,hI⟩,h1,h2⟩:=hH;obtain ⟨u,hu,e1,e2,p1,p2⟩:=hI.split c;rw [e1];refine ⟨ps.take u,hI.leftU (by omega) hu p1,fun v hv => ?_,fun v hv => ?_⟩
 ·obtain ⟨r,hr,rfl⟩:=List.mem_map.1 hv;obtain ⟨s,hs,rfl⟩:=List.mem_map.1 hr;have hw:=wide_span hM (h1 _ (List.mem_map.2 ⟨s,List.mem_of_mem_take hs,rfl⟩));refine span_cmb.2 ⟨fun i=>vr s (c+i),?_⟩
  funext j
  rw [vr_take]
  by_cases hj:j<c
  ·rw [if_pos hj]; exact hw.1 j hj
  ·rw [if_neg hj]; exact (sumZ_zero fun i _=>by rw [eM_far hM (by omega)]; simp).symm
 ·obtain ⟨r,hr,rfl⟩:=List.mem_map.1 hv;obtain ⟨i,hi,rfl⟩:=List.getElem_of_mem hr;have hW:Span (latM H) (vr ((wideM M)[i]'(by simpa using hi))):=h2 _ (List.mem_map.2 ⟨_,List.getElem_mem _,rfl⟩)
  have hc:=span_cut (c:=c) (B:=latM ((H.take u).map (List.take c))) (fun r hr=>by
   obtain ⟨k,hk,rfl⟩:=lat_at hr
   by_cases hku:k<u
   ·refine .mem (List.mem_map.2 ⟨(H.getD k []).take c,List.mem_map.2 ⟨H.getD k [],?_,rfl⟩,?_⟩)
    ·rw [getD_get hk];have:k<(H.take u).length:=by simp; omega
     have h3:=List.getElem_mem this;rwa [List.getElem_take] at h3
    ·funext j; exact vr_take j
   ·refine span_of_eq .zero fun j => ?_
    by_cases hj:j<c
    ·rw [if_pos hj,eM_vrD]; exact hI.left k hk j (by have:=p2 k (by omega) hk; omega)
    ·rw [if_neg hj]) hW
  refine span_of_eq hc fun j => ?_
  rw [wide_vr hM hi]
  by_cases hj:j<c
  ·rw [if_pos hj,if_pos hj,eM_vr hi]
  ·rw [if_neg hj, ← eM_vr hi,eM_far hM (by omega)]
theorem upr_rows {c m:Nat} {ps:List Nat} {H:Mx} (hI:IsH m ps H):Rect m (upr c H) ∧ ∀ r∈upr c H,pv r<c∧pv r<m:=by
 refine ⟨fun r hr=>hI.rect r (List.mem_filter.1 hr).1,fun r hr => ?_⟩;obtain ⟨h1,h2⟩:=List.mem_filter.1 hr;refine ⟨of_decide_eq_true h2,?_⟩;obtain ⟨i,hi,rfl⟩:=List.getElem_of_mem h1;have:=hI.lt i hi;rwa [hI.pvs hi,getD_get hi] at this
def solL (c:Nat) (H:Mx) (n:Nat) (b:List Int):List Int:=redX (upr c H) (b++List.replicate n 0)
@[simp] theorem solL_length (c:Nat) (H:Mx) (n:Nat) (b:List Int):(solL c H n b).length=b.length+n:=by simp [solL]
theorem vr_zeros (b:List Int) (n j:Nat):vr (b++List.replicate n 0) j=if j<b.length then vr b j else 0:=by
 unfold vr;simp only [List.getD_eq_getElem?_getD]
 by_cases hj:j<b.length
 ·rw [if_pos hj,List.getElem?_append_left hj]
 ·rw [if_neg hj,List.getElem?_append_right (by omega),List.getElem?_replicate]; split <;> rfl
theorem sol_zero {c:Nat} {M H:Mx} {b:List Int} (hM:Rect c M) (hH:HnfOf (c+M.length) (wideM M) H) (hb:b.length=c):zeroL ((solL c H M.length b).take c)↔Span (latM M) (vr b):=by
 obtain ⟨qs,hU,a1,a2⟩:=left_form hM hH;obtain ⟨⟨ps,hI⟩,h1,h2⟩:=hH;have hr:=upr_rows (c:=c) hI;unfold solL;rw [redX_left _ _ hr.1 (by simp [hb]) hr.2,List.take_left' hb,redX_zero hU hb];exact ⟨fun h=>h.trans a1,fun h=>h.trans a2⟩
def negM (l:List Int):List Int:=l.map fun z => -z
@[simp] theorem negM_length (l:List Int):(negM l).length=l.length:=by simp [negM]
theorem vr_negM (l:List Int) (j:Nat):vr (negM l) j = -vr l j:=by
 have:=congrFun (vr_neg l) j;simp only [Hnf.sub] at this;show vr (l.map fun z => -z) j=_;omega
theorem sol_cmb {c:Nat} {M H:Mx} {b:List Int} (hM:Rect c M) (hH:HnfOf (c+M.length) (wideM M) H) (hb:b.length=c) (hz:zeroL ((solL c H M.length b).take c)) : ∀ j,j<c→cmb M (vr (negM ((solL c H M.length b).drop c))) j=vr b j:=by
 intro j hj;obtain ⟨⟨ps,hI⟩,h1,h2⟩:=hH;have hr:=upr_rows (c:=c) hI;have hs:=redX_span (n:=c+M.length) (upr c H) (b++List.replicate M.length 0) hr.1 (by simp [hb])
 have hs2:=(hs.mono (N:=latM H) fun v hv=>by
  obtain ⟨r,hr,rfl⟩:=List.mem_map.1 hv
  exact List.mem_map.2 ⟨r,(List.mem_filter.1 hr).1,rfl⟩).trans h1
 have hw:=(wide_span hM hs2).1 j hj;have e:redX (upr c H) (b++List.replicate M.length 0)=solL c H M.length b:=rfl;rw [e] at hw;have z0:=zero_vr.1 hz j;rw [vr_take,if_pos hj] at z0;simp only [Hnf.sub] at hw;rw [z0,vr_zeros,hb,if_pos hj] at hw
 have e2:(fun i=>vr (b++List.replicate M.length 0) (c+i)-1*vr (solL c H M.length b) (c+i))=vr (negM ((solL c H M.length b).drop c)):=by
  funext i
  rw [vr_negM,vr_drop,vr_zeros,hb,if_neg (by omega)]; omega
 rw [e2] at hw;omega
theorem ech_drop : ∀ (k:Nat) {F:List (Nat×V)} {b:Nat},Ech b F → ∃ b',Ech b' (F.drop k)
 | 0,F,b,h=>⟨b,h⟩
 | k+1,[],b,h=>⟨b,h⟩
 | k+1,(p,f)::F,b,h=>by obtain ⟨_,_,_,h4⟩:=h; exact ech_drop k h4
theorem span_tail {F:List (Nat×V)} {b:Nat} (hE:Ech b F) {v:V} (hv:Span (Hnf.rows F) v) : ∀ u,u≤F.length→(∀ i,i<u → ∀ (h:i<F.length),v (F[i]).1=0)→Span (Hnf.rows (F.drop u)) v
 | 0,_,_=>hv
 | u+1,hu,hz=>by
  have ih:=span_tail hE hv u (by omega) (fun i hi h=>hz i (by omega) h);obtain ⟨b',hb'⟩:=ech_drop u hE;rw [List.drop_eq_getElem_cons (by omega)] at ih hb';obtain ⟨p,hp⟩ : ∃ p,p=F[u]'(by omega):=⟨_,rfl⟩
  have h0:=hz u (by omega) (by omega);rw [← hp] at ih hb' h0;obtain ⟨p1,p2⟩:=p;exact hb'.tail ih h0
theorem krn_form {c:Nat} {M H:Mx} (hM:Rect c M) (hH:HnfOf (c+M.length) (wideM M) H) :
  ∃ qs,IsH M.length qs (krn c H) ∧ ∀ y:V,Span (latM (krn c H)) y↔(∀ j,j<c→cmb M y j=0) ∧ ∀ i,M.length≤i→y i=0:=by
 obtain ⟨⟨ps,hI⟩,h1,h2⟩:=hH;obtain ⟨u,hu,e1,e2,p1,p2⟩:=hI.split c;have hK:krn c H=(H.drop u).map (List.drop c):=by unfold krn; rw [e2]
 rw [hK];have hD:=hI.rightD (m:=M.length) rfl hu p2;refine ⟨_,hD,fun y=>⟨fun h => ?_,fun h => ?_⟩⟩
 ·induction h with
  | zero=>exact ⟨fun j _=>cmb_zero M j,fun _ _=>rfl⟩
  | @step v r q _ hr ih =>
   obtain ⟨x,hx,rfl⟩:=List.mem_map.1 hr;obtain ⟨s,hs,rfl⟩:=List.mem_map.1 hx;obtain ⟨k,hk,rfl⟩:=List.getElem_of_mem hs;have hk':u+k<H.length:=by simp at hk; omega
   rw [List.getElem_drop] at hx hr ⊢;have hw:=wide_span hM (h1 _ (List.mem_map.2 ⟨H[u+k],List.getElem_mem hk',rfl⟩));refine ⟨fun j hj => ?_,fun i hi => ?_⟩
   ·rw [cmb_sub,ih.1 j hj];have e3:vr (List.drop c H[u+k])=fun i=>vr H[u+k] (c+i):=by funext i; exact vr_drop _ _ _
    rw [e3, ← hw.1 j hj];have:=hI.left (u+k) hk' j (by have:=p2 (u+k) (by omega) hk'; omega);rw [eM_vr hk'] at this;rw [this]; simp
   ·simp only [Hnf.sub];rw [ih.2 i hi,vr_drop,hw.2 _ (by omega)]; simp
 ·have hv:Span (latM (wideM M)) (fun j=>if j<c then 0 else y (j-c)):=by
   refine span_wide hM (fun j hj => ?_) fun j hj => ?_
   ·rw [if_pos hj];have e3:(fun i=>if c+i<c then (0:Int) else y (c+i-c))=y:=by funext i; rw [if_neg (by omega),Nat.add_sub_cancel_left]
    rw [e3,h.1 j hj]
   ·rw [if_neg (by omega)]; exact h.2 _ (by omega)
  have hH2:=hv.trans h2;rw [← wps_rows hI.len] at hH2
  have ht:=span_tail hI.ech hH2 u (by simp [wps,hI.len]; omega) (fun i hi h=>by
   have hpi:((wps ps H)[i]'h).1=ps.getD i 0:=by
    have hil:i<ps.length:=by rw [hI.len]; omega
    rw [getD_get hil]; simp [wps]
   rw [hpi,if_pos (p1 i hi)])
  have e3:Hnf.rows ((wps ps H).drop u)=latM (H.drop u):=by
   have:=wps_rows hI.len;unfold Hnf.rows at this ⊢;rw [List.map_drop,this]; simp [latM,List.map_drop]
  rw [e3] at ht
  have hsh:=span_shift (c:=c) (B:=latM ((H.drop u).map (List.drop c))) (fun r hr=>by
   obtain ⟨s,hs,rfl⟩:=List.mem_map.1 hr;refine .mem (List.mem_map.2 ⟨s.drop c,List.mem_map.2 ⟨s,hs,rfl⟩,?_⟩)
   funext j; exact vr_drop _ _ _) ht
  refine span_of_eq hsh fun j => ?_
  rw [if_neg (by omega),Nat.add_sub_cancel_left]
def solX (c:Nat) (H:Mx) (n:Nat) (b:List Int):List Int:=redX (krn c H) (negM ((solL c H n b).drop c))
theorem solX_length {c n:Nat} {H:Mx} {b:List Int} (hb:b.length=c):(solX c H n b).length=n:=by
 unfold solX;rw [redX_length,negM_length,List.length_drop,solL_length,hb]; omega
theorem solX_cmb {c:Nat} {M H:Mx} {b:List Int} (hM:Rect c M) (hH:HnfOf (c+M.length) (wideM M) H) (hb:b.length=c) (hz:zeroL ((solL c H M.length b).take c)) : ∀ j,j<c→cmb M (vr (solX c H M.length b)) j=vr b j:=by
 intro j hj;obtain ⟨qs,hK,hS⟩:=krn_form hM hH;have h0:(negM ((solL c H M.length b).drop c)).length=M.length:=by simp [hb]
 have hs:=redX_span (krn c H) _ hK.rect h0;have:=((hS _).1 hs).1 j hj;rw [cmb_sub,sol_cmb hM hH hb hz j hj] at this;unfold solX;omega
end Go.Proofs.YtmhfccigejcphaaGreatDoor
namespace Go.Proofs.YtmhfccigejcphaaGreatDoor
open Go.RowKit Go.Sort
open Lib (hid)
theorem sumR_add2 (f g h:Nat→Rat) (e : ∀ i,h i=f i+g i) : ∀ k,sumR h k=sumR f k+sumR g k
 | 0=>by simp [sumR]; grind
 | k+1=>by
  rw [sumR,sumR,sumR,sumR_add2 f g h e k,e]
  grind
theorem sumR_mul (q:Rat) (f:Nat→Rat) : ∀ n,sumR (fun i=>q*f i) n=q*sumR f n
 | 0=>by show (0:Rat)=q*0; grind
 | n+1=>by rw [sumR,sumR,sumR_mul q f n]; grind
theorem sumR_nil {f:Nat→Rat} : ∀ n,(∀ i,i<n→f i=0)→sumR f n=0
 | 0,_=>rfl
 | n+1,h=>by rw [sumR,sumR_nil n (fun i hi=>h i (by omega)),h n (by omega)]; grind
theorem sumR_cast (f:Nat→Int) : ∀ n,((sumZ f n:Int):Rat)=sumR (fun i=>((f i:Int):Rat)) n
 | 0=>rfl
 | n+1=>by rw [sumZ,sumR,Rat.intCast_add,sumR_cast f n]
theorem sumR_one {f:Nat→Rat} {k:Nat} : ∀ n,k<n→(∀ i,i<n→i≠k→f i=0)→sumR f n=f k
 | n+1,hk,h=>by
  rw [sumR]
  by_cases e:k=n
  ·subst e;rw [sumR_nil k (fun i hi=>h i (by omega) (by omega))]; grind
  ·rw [sumR_one n (by omega) (fun i hi h2=>h i (by omega) h2),h n (by omega) (fun e2=>e e2.symm)]; grind
abbrev Mq:=List (List Rat)
def qa (F:Mq) (i j:Nat):Rat:=(F.getD i []).getD j 0
def dotQ (n:Nat) (r:List Rat) (y:Nat→Rat):Rat:=sumR (fun j=>r.getD j 0*y j) n
def KerQ (n:Nat) (F:Mq) (y:Nat→Rat):Prop := ∀ i,i<F.length→dotQ n (F.getD i []) y=0
def SameK (n:Nat) (F F':Mq):Prop:=F'.length=F.length ∧ ∀ y,KerQ n F y↔KerQ n F' y
theorem SameK.refl (n:Nat) (F:Mq):SameK n F F:=⟨rfl,fun _=>Iff.rfl⟩
theorem SameK.trans {n:Nat} {F G H:Mq} (h:SameK n F G) (k:SameK n G H):SameK n F H:=⟨k.1.trans h.1,fun y=>(h.2 y).trans (k.2 y)⟩
theorem getD_setQ (F:Mq) {k:Nat} (hk:k<F.length) (r:List Rat) (i:Nat):(F.set k r).getD i []=if i=k then r else F.getD i []:=by
 rw [List.getD_eq_getElem?_getD,List.getElem?_set]
 by_cases h:k=i
 ·subst h; rw [if_pos rfl,if_pos hk,if_pos rfl]; rfl
 ·rw [if_neg h,if_neg (fun e=>h e.symm),List.getD_eq_getElem?_getD]
theorem mapr_get {α:Type} {f:Nat→α} {n t:Nat} (h:t<((List.range n).map f).length):((List.range n).map f)[t]=f t:=by simp
def divT (r:List Rat) (p:Rat) (j:Nat):List Rat:=(List.range r.length).map fun t=>if t<j then r.getD t 0/p else r.getD t 0
@[simp] theorem divT_length (r:List Rat) (p:Rat) (j:Nat):(divT r p j).length=r.length:=by simp [divT]
theorem range_getD {f:Nat→Rat} {n t:Nat}:((List.range n).map f).getD t 0=if t<n then f t else 0:=by
 rw [List.getD_eq_getElem?_getD,List.getElem?_map]
 by_cases h:t<n
 ·rw [List.getElem?_range h,if_pos h]; rfl
 ·rw [List.getElem?_eq_none (by simpa using h),if_neg h]; rfl
theorem getD_none {r:List Rat} {t:Nat} (h:r.length≤t):r.getD t 0=0:=by
 rw [List.getD_eq_getElem?_getD,List.getElem?_eq_none h]; rfl
theorem divT_getD (r:List Rat) (p:Rat) (j t:Nat):(divT r p j).getD t 0=if t<j then r.getD t 0/p else r.getD t 0:=by
 unfold divT;rw [range_getD]
 by_cases h:t<r.length
 ·rw [if_pos h]
 ·rw [if_neg h,getD_none (by omega)];split
  ·grind
  ·rfl
theorem divT_get {r:List Rat} {p:Rat} {j t:Nat} (h:t<(divT r p j).length):(divT r p j)[t]=if t<j then r.getD t 0/p else r.getD t 0:=mapr_get (f:=fun t=>if t<j then r.getD t 0/p else r.getD t 0) h
theorem divT_zero (r:List Rat) (p:Rat):divT r p 0=r:=by
 refine List.ext_getElem (by simp) fun t h1 h2 => ?_
 simp [divT,List.getD_eq_getElem?_getD,h2]
theorem divT_step {r:List Rat} {p:Rat} {j:Nat} (_h:j<r.length):(divT r p j).set j (r.getD j 0/p)=divT r p (j+1):=by
 refine List.ext_getElem (by simp) fun t h1 h2 => ?_
 rw [List.getElem_set,divT_get]
 by_cases e:j=t
 ·subst e; rw [if_pos rfl,divT_get,if_pos (by omega)]
 ·rw [if_neg e,divT_get];split <;> split <;> first | rfl | omega
def subT (r:List Rat) (f:Rat) (s:List Rat) (j:Nat):List Rat:=(List.range r.length).map fun t=>if t<j then r.getD t 0-f*s.getD t 0 else r.getD t 0
@[simp] theorem subT_length (r:List Rat) (f:Rat) (s:List Rat) (j:Nat):(subT r f s j).length=r.length:=by simp [subT]
theorem subT_getD {r s:List Rat} (hs:s.length=r.length) (f:Rat) (j t:Nat):(subT r f s j).getD t 0=if t<j then r.getD t 0-f*s.getD t 0 else r.getD t 0:=by
 unfold subT;rw [range_getD]
 by_cases h:t<r.length
 ·rw [if_pos h]
 ·rw [if_neg h,getD_none (by omega),getD_none (r:=s) (by omega)];split
  ·grind
  ·rfl
theorem subT_get {r s:List Rat} {f:Rat} {j t:Nat} (h:t<(subT r f s j).length):(subT r f s j)[t]=if t<j then r.getD t 0-f*s.getD t 0 else r.getD t 0:=mapr_get (f:=fun t=>if t<j then r.getD t 0-f*s.getD t 0 else r.getD t 0) h
theorem subT_zero (r:List Rat) (f:Rat) (s:List Rat):subT r f s 0=r:=by
 refine List.ext_getElem (by simp) fun t h1 h2 => ?_
 simp [subT,List.getD_eq_getElem?_getD,h2]
theorem subT_none (r s:List Rat) (j:Nat):subT r 0 s j=r:=by
 refine List.ext_getElem (by simp) fun t h1 h2 => ?_
 simp only [subT,List.getElem_map,List.getElem_range,List.getD_eq_getElem?_getD,List.getElem?_eq_getElem h2,Option.getD_some];split
 ·grind
 ·rfl
theorem subT_step {r s:List Rat} {f:Rat} {j:Nat} (_h:j<r.length):(subT r f s j).set j (r.getD j 0-f*s.getD j 0)=subT r f s (j+1):=by
 refine List.ext_getElem (by simp) fun t h1 h2 => ?_
 rw [List.getElem_set,subT_get]
 by_cases e:j=t
 ·subst e; rw [if_pos rfl,subT_get,if_pos (by omega)]
 ·rw [if_neg e,subT_get];split <;> split <;> first | rfl | omega
theorem dot_divT {n:Nat} {r:List Rat} {p:Rat} (y:Nat→Rat):dotQ n (divT r p n) y=dotQ n r y/p:=by
 unfold dotQ;rw [sumR_congr n (g:=fun j=>(1/p)*(r.getD j 0*y j)) (fun j hj=>by rw [divT_getD,if_pos hj]; grind),sumR_mul]
 grind
theorem dot_subT {n:Nat} {r s:List Rat} {f:Rat} (hr:r.length=n) (hs:s.length=n) (y:Nat→Rat):dotQ n (subT r f s n) y=dotQ n r y-f*dotQ n s y:=by
 unfold dotQ
 have e1:=sumR_congr n (f:=fun j=>(subT r f s n).getD j 0*y j) (g:=fun j=>r.getD j 0*y j+(-f)*(s.getD j 0*y j)) (fun j hj=>by
  rw [subT_getD (by omega),if_pos hj]; grind)
 have e2:=sumR_add2 (fun j=>r.getD j 0*y j) (fun j=>(-f)*(s.getD j 0*y j)) (fun j=>r.getD j 0*y j+(-f)*(s.getD j 0*y j)) (fun _=>rfl) n;rw [e1,e2,sumR_mul]
 grind
theorem same_set {n:Nat} {F:Mq} {k:Nat} {r:List Rat} (hk:k<F.length) (h : ∀ y,(∀ i,i<F.length→i≠k→dotQ n (F.getD i []) y=0)→(dotQ n (F.getD k []) y=0↔dotQ n r y=0)):SameK n F (F.set k r):=by
 refine ⟨by simp,fun y=>⟨fun hy i hi => ?_,fun hy i hi => ?_⟩⟩
 ·rw [getD_setQ F hk]
  by_cases e:i=k
  ·rw [if_pos e];exact (h y (fun t ht _=>hy t ht)).1 (hy k hk)
  ·rw [if_neg e]; exact hy i (by simpa using hi)
 ·have hy2 : ∀ t,t<F.length→t≠k→dotQ n (F.getD t []) y=0:=fun t ht hne=>by
   have:=hy t (by simpa using ht);rwa [getD_setQ F hk,if_neg hne] at this
  by_cases e:i=k
  ·subst e;have:=hy i (by simpa using hi);rw [getD_setQ F hk,if_pos rfl] at this;exact (h y hy2).2 this
  ·exact hy2 i hi e
theorem same_div {n:Nat} {F:Mq} {k:Nat} {p:Rat} (hk:k<F.length) (hp:p≠0):SameK n F (F.set k (divT (F.getD k []) p n)) :=
 same_set hk fun y _=>by
  rw [dot_divT];constructor
  ·intro h; rw [h]; grind
  ·intro h;have:dotQ n (F.getD k []) y=dotQ n (F.getD k []) y/p*p:=by grind
   rw [this,h]; grind
theorem same_sub {n:Nat} {F:Mq} {i k:Nat} {f:Rat} (hR:RectQ n F) (hi:i<F.length) (hk:k<F.length) (hne:i≠k):SameK n F (F.set i (subT (F.getD i []) f (F.getD k []) n)) :=
 same_set hi fun y hy=>by
  have hl : ∀ t,t<F.length→(F.getD t []).length=n:=fun t ht=>by rw [List.getD_eq_getElem?_getD,List.getElem?_eq_getElem ht]; exact hR _ (List.getElem_mem ht)
  rw [dot_subT (hl i hi) (hl k hk),hy k hk (Ne.symm hne)];constructor
  ·intro h; rw [h]; grind
  ·intro h; grind
theorem same_swap {n:Nat} {F:Mq} {i j:Nat} (hi:i<F.length) (hj:j<F.length):SameK n F (sw2 F [] i j):=by
 refine ⟨by simp,fun y=>⟨fun hy t ht => ?_,fun hy t ht => ?_⟩⟩
 ·rw [sw2_getD F [] hi hj];split
  ·exact hy i hi
  ·split
   ·exact hy j hj
   ·exact hy t (by simpa using ht)
 ·by_cases e1:t=i
  ·subst e1;have:=hy j (by simpa using hj);rwa [sw2_getD F [] hi hj,if_pos rfl] at this
  ·by_cases e2:t=j
   ·subst e2;have:=hy i (by simpa using hi);rw [sw2_getD F [] hi hj] at this
    by_cases e3:i=t
    ·exact absurd e3.symm e1
    ·rwa [if_neg e3,if_pos rfl] at this
   ·have:=hy t (by simpa using ht);rwa [sw2_getD F [] hi hj,if_neg e2,if_neg e1] at this
def elimTo (F:Mq) (n k c i:Nat):Mq:=(List.range F.length).map fun t=>if t<i∧t≠k then subT (F.getD t []) (qa F t c) (F.getD k []) n else F.getD t []
@[simp] theorem elimTo_length (F:Mq) (n k c i:Nat):(elimTo F n k c i).length=F.length:=by simp [elimTo]
theorem elimTo_getD {F:Mq} {n k c i t:Nat} (ht:t<F.length):(elimTo F n k c i).getD t []=if t<i∧t≠k then subT (F.getD t []) (qa F t c) (F.getD k []) n else F.getD t []:=by
 unfold elimTo;rw [List.getD_eq_getElem?_getD,List.getElem?_map,List.getElem?_range ht]; rfl
theorem elimTo_get {F:Mq} {n k c i t:Nat} (h:t<(elimTo F n k c i).length):(elimTo F n k c i)[t]=if t<i∧t≠k then subT (F.getD t []) (qa F t c) (F.getD k []) n else F.getD t []:=mapr_get (f:=fun t=>if t<i∧t≠k then subT (F.getD t []) (qa F t c) (F.getD k []) n else F.getD t []) h
theorem elimTo_zero (F:Mq) (n k c:Nat):elimTo F n k c 0=F:=by
 refine List.ext_getElem (by simp) fun t h1 h2 => ?_
 simp [elimTo,List.getD_eq_getElem?_getD,h2]
theorem elimTo_step {F:Mq} {n k c i:Nat} (hik:i≠k):(elimTo F n k c i).set i (subT (F.getD i []) (qa F i c) (F.getD k []) n)=elimTo F n k c (i+1):=by
 refine List.ext_getElem (by simp) fun t h1 h2 => ?_
 rw [List.getElem_set,elimTo_get,elimTo_get]
 by_cases e:i=t
 ·subst e;simp [hik]
 ·rw [if_neg e];have:(t<i∧t≠k)↔(t<i+1∧t≠k):=by omega
  simp only [this]
theorem elimTo_skip {F:Mq} {n k c i:Nat} (h:i=k∨qa F i c=0):elimTo F n k c i=elimTo F n k c (i+1):=by
 refine List.ext_getElem (by simp) fun t h1 h2 => ?_
 rw [elimTo_get,elimTo_get]
 by_cases e:t=i
 ·subst e
  rcases h with h | h
  ·simp [h]
  ·simp [h,subT_none]
 ·have:(t<i∧t≠k)↔(t<i+1∧t≠k):=by omega
  simp only [this]
theorem rectQ_getD {n:Nat} {F:Mq} (h:RectQ n F) {i:Nat} (hi:i<F.length):(F.getD i []).length=n:=by
 rw [List.getD_eq_getElem?_getD,List.getElem?_eq_getElem hi]; exact h _ (List.getElem_mem hi)
theorem rectQ_set {n:Nat} {F:Mq} (h:RectQ n F) {i:Nat} {r:List Rat} (hr:r.length=n):RectQ n (F.set i r):=fun s hs=>by
 rcases List.mem_or_eq_of_mem_set hs with h1 | rfl
 ·exact h s h1
 ·exact hr
theorem elimTo_rect {F:Mq} {n k c i:Nat} (h:RectQ n F):RectQ n (elimTo F n k c i):=fun s hs=>by
 unfold elimTo at hs;obtain ⟨t,ht,rfl⟩:=List.mem_map.1 hs;have ht2:=List.mem_range.1 ht;split
 ·rw [subT_length]; exact rectQ_getD h ht2
 ·exact rectQ_getD h ht2
theorem elimTo_same {F:Mq} {n k c:Nat} (h:RectQ n F) (hk:k<F.length) : ∀ i,i≤F.length→SameK n F (elimTo F n k c i)
 | 0,_=>by rw [elimTo_zero]; exact SameK.refl n F
 | i+1,hi=>by
  refine SameK.trans (G:=elimTo F n k c i) (elimTo_same h hk i (by omega)) ?_
  by_cases e:i=k
  ·rw [elimTo_skip (.inl e)]; exact SameK.refl _ _
  ·rw [← elimTo_step e];have h1:(elimTo F n k c i).getD i []=F.getD i []:=by rw [elimTo_getD (by omega),if_neg (by omega)]
   have h2:(elimTo F n k c i).getD k []=F.getD k []:=by rw [elimTo_getD hk,if_neg (fun h=>h.2 rfl)]
   have h3:=same_sub (n:=n) (F:=elimTo F n k c i) (i:=i) (k:=k) (f:=qa F i c) (elimTo_rect h) (by simp; omega) (by simpa using hk) e;rw [h1,h2] at h3;exact h3
structure RrI (m n c:Nat) (F:Mq) (lead:List Nat):Prop where
 rect:RectQ n F
 len:F.length=m
 le:lead.length≤m
 lt : ∀ t,t<lead.length→lead.getD t 0<c
 inc : ∀ t u,t<u→u<lead.length→lead.getD t 0<lead.getD u 0
 unit : ∀ t,t<lead.length → ∀ i,i<m→qa F i (lead.getD t 0)=if i=t then 1 else 0
 zero : ∀ i,lead.length≤i→i<m → ∀ j,j<c→qa F i j=0
theorem RrI.start {m n:Nat} {F:Mq} (hR:RectQ n F) (hl:F.length=m):RrI m n 0 F [] :=
 ⟨hR,hl,by simp,fun t h=>by simp at h,fun t u _ h=>by simp at h,fun t h=>by simp at h,fun i _ _ j hj=>by omega⟩
theorem RrI.skip {m n c:Nat} {F:Mq} {lead:List Nat} (h:RrI m n c F lead) (hz : ∀ i,lead.length≤i→i<m→qa F i c=0):RrI m n (c+1) F lead :=
 ⟨h.rect,h.len,h.le,fun t ht=>by have:=h.lt t ht; omega,h.inc,h.unit,fun i h1 h2 j hj=>by
  rcases Nat.lt_or_ge j c with h3 | h3
  ·exact h.zero i h1 h2 j h3
  ·obtain rfl:j=c:=by omega
   exact hz i h1 h2⟩
def pivQ (F:Mq) (n k c:Nat):Mq:=elimTo (F.set k (divT (F.getD k []) (qa F k c) n)) n k c F.length
theorem pivQ_at {F:Mq} {n k c i j:Nat} (hR:RectQ n F) (hk:k<F.length) (hi:i<F.length) (hj:j<n) :
  qa (pivQ F n k c) i j=if i=k then qa F k j/qa F k c else qa F i j-qa F i c*(qa F k j/qa F k c):=by
 have hl:=rectQ_getD hR hk;have h1:(F.set k (divT (F.getD k []) (qa F k c) n)).getD k []=divT (F.getD k []) (qa F k c) n:=by rw [getD_setQ F hk,if_pos rfl]
 unfold qa pivQ;rw [elimTo_getD (by simpa using hi)]
 by_cases e:i=k
 ·subst e;rw [if_neg (fun h=>h.2 rfl),if_pos rfl,h1,divT_getD,if_pos hj]; rfl
 ·have h2:(F.set k (divT (F.getD k []) (qa F k c) n)).getD i []=F.getD i []:=by rw [getD_setQ F hk,if_neg e]
  have h3:qa (F.set k (divT (F.getD k []) (qa F k c) n)) i c=qa F i c:=by
   show ((F.set k (divT (F.getD k []) (qa F k c) n)).getD i []).getD c 0=_;rw [h2]; rfl
  rw [if_pos ⟨hi,e⟩,if_neg e,h1,h3,subT_getD (by rw [h2,divT_length,hl,rectQ_getD hR hi]),if_pos hj,h2,divT_getD,if_pos hj];rfl
theorem RrI.pivot {m n c:Nat} {F:Mq} {lead:List Nat} (h:RrI m n c F lead) (hk:lead.length<m) (hc:c<n) (hp:qa F lead.length c≠0):RrI m n (c+1) (pivQ F n lead.length c) (lead++[c]):=by
 have hkF:lead.length<F.length:=by rw [h.len]; exact hk
 have hl:=rectQ_getD h.rect hkF;have hRs:RectQ n (F.set lead.length (divT (F.getD lead.length []) (qa F lead.length c) n)):=rectQ_set h.rect (by rw [divT_length,hl]);have hat : ∀ i j,i<m→j<n→qa (pivQ F n lead.length c) i j=if i=lead.length then qa F lead.length j/qa F lead.length c else qa F i j-qa F i c*(qa F lead.length j/qa F lead.length c):=fun i j hi hj=>pivQ_at h.rect hkF (by rw [h.len]; exact hi) hj
 have hln : ∀ t,t<lead.length→(lead++[c]).getD t 0=lead.getD t 0:=fun t ht=>by
  rw [List.getD_eq_getElem?_getD,List.getElem?_append_left ht,List.getD_eq_getElem?_getD]
 have hlc:(lead++[c]).getD lead.length 0=c:=by
  rw [List.getD_eq_getElem?_getD,List.getElem?_append_right (Nat.le_refl _)]; simp
 have hpj : ∀ j,j<c→qa F lead.length j=0:=fun j hj=>h.zero _ (Nat.le_refl _) hk j hj
 refine ⟨elimTo_rect hRs,by unfold pivQ; rw [elimTo_length,List.length_set,h.len],by simp; omega,fun t ht => ?_,fun t u htu hu => ?_,fun t ht i hi => ?_,fun i h1 h2 j hj => ?_⟩
 ·rcases Nat.lt_or_ge t lead.length with h3 | h3
  ·rw [hln t h3]; have:=h.lt t h3; omega
  ·obtain rfl:t=lead.length:=by simp at ht; omega
   rw [hlc]; omega
 ·rw [List.length_append,List.length_singleton] at hu;rw [hln t (by omega)]
  rcases Nat.lt_or_ge u lead.length with h3 | h3
  ·rw [hln u h3]; exact h.inc t u htu h3
  ·obtain rfl:u=lead.length:=by omega
   rw [hlc]; exact h.lt t (by omega)
 ·rcases Nat.lt_or_ge t lead.length with h3 | h3
  ·have hlt:=h.lt t h3;rw [hln t h3,hat i _ hi (by omega),hpj _ hlt];have hu:=h.unit t h3
   by_cases e:i=lead.length
   ·rw [if_pos e,if_neg (by omega)]; grind
   ·rw [if_neg e,hu i hi]; grind
  ·obtain rfl:t=lead.length:=by simp at ht; omega
   rw [hlc,hat i c hi hc]
   by_cases e:i=lead.length
   ·rw [if_pos e,if_pos e]; grind
   ·rw [if_neg e,if_neg e]; grind
 ·rw [List.length_append,List.length_singleton] at h1;have e:i≠lead.length:=by omega
  rw [hat i j h2 (by omega),if_neg e]
  rcases Nat.lt_or_ge j c with h3 | h3
  ·rw [h.zero i (by omega) h2 j h3,hpj j h3]; grind
  ·obtain rfl:j=c:=by omega
   grind
theorem pivQ_same {F:Mq} {n k c:Nat} (hR:RectQ n F) (hk:k<F.length) (hp:qa F k c≠0):SameK n F (pivQ F n k c):=by
 unfold pivQ;refine (same_div hk hp).trans ?_;have:=elimTo_same (n:=n) (F:=F.set k (divT (F.getD k []) (qa F k c) n)) (k:=k) (c:=c) (rectQ_set hR (by rw [divT_length,rectQ_getD hR hk])) (by simpa using hk) F.length (by simp);exact this
theorem RrI.swap {m n c:Nat} {F:Mq} {lead:List Nat} (h:RrI m n c F lead) {a:Nat} (ha:lead.length≤a) (ham:a<m):RrI m n c (sw2 F [] lead.length a) lead:=by
 have hk:lead.length<F.length:=by rw [h.len]; omega
 have haF:a<F.length:=by rw [h.len]; exact ham
 have hrow : ∀ i,(sw2 F [] lead.length a).getD i []=if i=a then F.getD lead.length [] else if i=lead.length then F.getD a [] else F.getD i []:=fun i=>sw2_getD F [] hk haF i []
 refine ⟨fun r hr => ?_,by rw [sw2_length,h.len],h.le,h.lt,h.inc,fun t ht i hi => ?_,fun i h1 h2 j hj => ?_⟩
 ·obtain ⟨t,ht,rfl⟩:=List.getElem_of_mem hr;rw [sw2_get F [] hk haF ht];exact h.rect _ (List.getElem_mem _)
 ·unfold qa;rw [hrow];have hu:=h.unit t ht;unfold qa at hu
  by_cases e1:i=a
  ·rw [if_pos e1,if_neg (by omega),hu _ (by omega),if_neg (by omega)]
  ·rw [if_neg e1]
   by_cases e2:i=lead.length
   ·rw [if_pos e2,if_neg (by omega),hu _ ham,if_neg (by omega)]
   ·rw [if_neg e2]; exact hu i hi
 ·unfold qa;rw [hrow];have hz:=h.zero;unfold qa at hz;split
  ·exact hz _ (Nat.le_refl _) (by omega) j hj
  ·split
   ·exact hz _ ha ham j hj
   ·exact hz i h1 h2 j hj
theorem range_getD0 {c t:Nat} (h:t<c):(List.range c).getD t 0=t:=by
 rw [List.getD_eq_getElem?_getD,List.getElem?_range h]; rfl
theorem RrI.rng {m n c:Nat} {F:Mq} (h:RrI m n c F (List.range c)) {t i:Nat} (ht:t<c) (hi:i<m):qa F i t=if i=t then 1 else 0:=by
 have:=h.unit t (by simpa using ht) i hi;rwa [range_getD0 ht] at this
theorem sumR_two {f:Nat→Rat} {a b n:Nat} (ha:a<n) (hb:b<n) (hab:a≠b) (h : ∀ i,i<n→i≠a→i≠b→f i=0):sumR f n=f a+f b:=by
 have h1:=sumR_add2 (fun i=>if i=a then f a else 0) (fun i=>if i=b then f b else 0) (fun i=>(if i=a then f a else 0)+(if i=b then f b else 0)) (fun _=>rfl) n
 rw [sumR_congr n (g:=fun i=>(if i=a then f a else 0)+(if i=b then f b else 0)) (fun i hi=>by
  by_cases e1:i=a
  ·subst e1; rw [if_pos rfl,if_neg hab]; grind
  ·by_cases e2:i=b
   ·subst e2; rw [if_neg e1,if_pos rfl]; grind
   ·rw [if_neg e1,if_neg e2,h i hi e1 e2]; grind),h1,
  sumR_one n ha (fun i _ hne=>by rw [if_neg hne]),sumR_one n hb (fun i _ hne=>by rw [if_neg hne]),if_pos rfl,if_pos rfl]
theorem RrI.must {n c:Nat} {F0 F:Mq} (hnon : ∀ y:Nat→Rat,KerQ (n+1) F0 y→y n=0 → ∀ j,j<n→y j=0) (h:RrI n (n+1) c F (List.range c)) (hc:c<n) (hS:SameK (n+1) F0 F) : ∃ k,c≤k∧k<n∧qa F k c≠0:=by
 refine Classical.byContradiction fun hno => ?_
 have hz : ∀ k,c≤k→k<n→qa F k c=0:=fun k h1 h2=>Classical.byContradiction fun h3=>hno ⟨k,h1,h2,h3⟩
 have hy:KerQ (n+1) F (fun j=>if j=c then 1 else if j<c then -qa F j c else 0):=fun i hi=>by
  rw [h.len] at hi;show sumR (fun j=>qa F i j*_) (n+1)=0
  by_cases hic:i<c
  ·rw [sumR_two (a:=i) (b:=c) (by omega) (by omega) (by omega) (fun j hj h1 h2 => ?_)]
   ·rw [if_neg (by omega),if_pos hic,if_pos rfl,h.rng hic hi,if_pos rfl]; grind
   ·rw [if_neg h2];split
    ·rename_i h3; rw [h.rng h3 hi,if_neg (fun e=>h1 e.symm)]; grind
    ·grind
  ·refine sumR_nil _ fun j hj => ?_
   by_cases h2:j=c
   ·subst h2; rw [hz i (by omega) hi]; grind
   ·rw [if_neg h2];split
    ·rename_i h3; rw [h.rng h3 hi,if_neg (by omega)]; grind
    ·grind
 have h1:=hnon _ ((hS.2 _).2 hy) (by rw [if_neg (by omega),if_neg (by omega)]) c hc;rw [if_pos rfl] at h1;exact absurd h1 (by decide)
theorem RrI.solves {n:Nat} {F0 F:Mq} (h:RrI n (n+1) n F (List.range n)) (hl:F0.length=n) (hS:SameK (n+1) F0 F) {i:Nat} (hi:i<n):sumR (fun j=>qa F0 i j*qa F j n) n=qa F0 i n:=by
 have hy:KerQ (n+1) F (fun j=>if j=n then -1 else qa F j n):=fun t ht=>by
  rw [h.len] at ht;show sumR (fun j=>qa F t j*_) (n+1)=0;rw [sumR_two (a:=t) (b:=n) (by omega) (by omega) (by omega) (fun j hj h1 h2 => ?_)]
  ·rw [if_neg (by omega),if_pos rfl,h.rng ht ht,if_pos rfl]; grind
  ·rw [if_neg h2,h.rng (by omega) ht,if_neg (fun e=>h1 e.symm)]; grind
 have h1:=(hS.2 _).2 hy i (by omega)
 have h2:dotQ (n+1) (F0.getD i []) (fun j=>if j=n then -1 else qa F j n)=sumR (fun j=>qa F0 i j*qa F j n) n+qa F0 i n * -1:=by
  show sumR (fun j=>qa F0 i j*(if j=n then -1 else qa F j n)) n+qa F0 i n*(if n=n then -1 else qa F n n)=_;rw [if_pos rfl,sumR_congr n (g:=fun j=>qa F0 i j*qa F j n) (fun j hj=>by rw [if_neg (by omega)])]
 rw [h2] at h1
 grind
theorem RrI.free {m n f:Nat} {F:Mq} {lead:List Nat} (h:RrI m n n F lead) (hl:lead.length≤1) (hf:f<n) (hfl : ∀ a∈lead,f≠a) :
  ∃ y:Nat→Rat,KerQ n F y∧y f=1 ∧ ∀ j,j≠f→(∀ a∈lead,j≠a)→y j=0:=by
 match lead,h,hl,hfl with
 | [],h,_,_ =>
  refine ⟨fun j=>if j=f then 1 else 0,fun i hi => ?_,if_pos rfl,fun j hj _=>if_neg hj⟩;rw [h.len] at hi;show sumR (fun j=>qa F i j*_) n=0;refine sumR_nil _ fun j hj => ?_
  rw [h.zero i (by simp) hi j hj]; grind
 | [a],h,_,hfl =>
  have hfa:=hfl a (by simp);have ha:a<n:=h.lt 0 (by simp)
  refine ⟨fun j=>if j=f then 1 else if j=a then -qa F 0 f else 0,fun i hi => ?_,if_pos rfl,fun j hj hja=>by
   show (if j=f then (1:Rat) else if j=a then -qa F 0 f else 0)=0
   rw [if_neg hj,if_neg (hja a (by simp))]⟩
  rw [h.len] at hi;show sumR (fun j=>qa F i j*_) n=0;rw [sumR_two (a:=f) (b:=a) hf ha hfa (fun j hj h1 h2=>by rw [if_neg h1,if_neg h2]; grind)];rw [if_pos rfl,if_neg (Ne.symm hfa),if_pos rfl];have hu:qa F i a=if i=0 then 1 else 0:=h.unit 0 (by simp) i hi
  rw [hu]
  by_cases e:i=0
  ·subst e; rw [if_pos rfl]; grind
  ·rw [if_neg e,h.zero i (by simp; omega) hi f hf]; grind
 | a::b::l,_,hl,_=>simp at hl
theorem RrI.full {m n:Nat} {F:Mq} {lead:List Nat} (h:RrI m n n F lead) (hm:m+1=n) (hm2:m≤2) (hker : ∀ y z:Nat→Rat,KerQ n F y→KerQ n F z → ∀ i j,i<n→j<n→y i*z j=y j*z i):lead.length=m:=by
 refine Nat.le_antisymm h.le (Nat.not_lt.1 fun hlt => ?_);have hl1:lead.length≤1:=by omega
 have hfr : ∃ f1 f2,f1<n∧f2<n∧f1≠f2∧(∀ a∈lead,f1≠a) ∧ ∀ a∈lead,f2≠a:=by
  match lead,hl1,hlt with
  | [],_,hlt=>exact ⟨0,1,by simp at hlt; omega,by simp at hlt; omega,by omega,by simp,by simp⟩
  | [a],_,hlt =>
   simp only [List.length_singleton] at hlt;refine ⟨if a=0 then 1 else 0,if a=2 then 1 else 2,?_,?_,?_,?_,?_⟩
   ·split <;> omega
   ·split <;> omega
   ·split <;> split <;> omega
   ·intro b hb; rw [List.mem_singleton.1 hb]; split <;> omega
   ·intro b hb; rw [List.mem_singleton.1 hb]; split <;> omega
  | a::b::l,hl,_=>simp at hl
 obtain ⟨f1,f2,h1,h2,hne,k1,k2⟩:=hfr;obtain ⟨y,y1,y2,y3⟩:=h.free hl1 h1 k1;obtain ⟨z,z1,z2,z3⟩:=h.free hl1 h2 k2;have:=hker y z y1 z1 f1 f2 h1 h2;rw [y2,z2,y3 f2 (Ne.symm hne) k2] at this;have e:(1:Rat)=0:=by grind
 exact absurd e (by decide)
theorem mul_cancelQ {a b c:Rat} (hc:c≠0) (h:c*a=c*b):a=b:=by
 have h1:c*(a-b)=0:=by grind
 rcases Rat.mul_eq_zero.1 h1 with h2 | h2
 ·exact absurd h2 hc
 ·grind
theorem line2 {p q y0 y1 z0 z1:Rat} (hp:p≠0∨q≠0) (h1:p*y0+q*y1=0) (h2:p*z0+q*z1=0):y0*z1=y1*z0:=by
 rcases hp with h | h
 ·exact mul_cancelQ h (by grind)
 ·exact mul_cancelQ h (by grind)
theorem cram1 {u0 u1 u2 t0 t1 t2 y0 y1 y2:Rat} (h1:u0*y0+u1*y1+u2*y2=0) (h2:t0*y0+t1*y1+t2*y2=0):(u1*t2-u2*t1)*y1=(u2*t0-u0*t2)*y0:=by
 have e1:t2*(u0*y0+u1*y1+u2*y2)=0:=by rw [h1]; grind
 have e2:u2*(t0*y0+t1*y1+t2*y2)=0:=by rw [h2]; grind
 grind
theorem cram2 {u0 u1 u2 t0 t1 t2 y0 y1 y2:Rat} (h1:u0*y0+u1*y1+u2*y2=0) (h2:t0*y0+t1*y1+t2*y2=0):(u1*t2-u2*t1)*y2=(u0*t1-u1*t0)*y0:=by
 have e1:t1*(u0*y0+u1*y1+u2*y2)=0:=by rw [h1]; grind
 have e2:u1*(t0*y0+t1*y1+t2*y2)=0:=by rw [h2]; grind
 grind
theorem line_of {v:Nat→Rat} {n:Nat} {y z:Nat→Rat} (hv:v 0≠0) (hy : ∀ i,i<n→v 0*y i=v i*y 0) (hz : ∀ i,i<n→v 0*z i=v i*z 0) : ∀ i j,i<n→j<n→y i*z j=y j*z i:=fun i j hi hj=>by
 refine mul_cancelQ hv (mul_cancelQ hv ?_);have e1:=hy i hi;have e2:=hz j hj;have e3:=hy j hj;have e4:=hz i hi;have a1:v 0*(v 0*(y i*z j))=(v 0*y i)*(v 0*z j):=by grind
 have a2:v 0*(v 0*(y j*z i))=(v 0*y j)*(v 0*z i):=by grind
 rw [a1,a2,e1,e2,e3,e4]
 grind
theorem sam_getD_ext {a b:List Int} (hl:a.length=b.length) (h : ∀ j,j<a.length→a.getD j 0=b.getD j 0):a=b:=by
 apply List.ext_getElem hl;intro i h1 h2;have:=h i h1;rwa [getD_get h1,getD_get h2] at this
set_option maxHeartbeats 1000000 in
theorem Same_any {w:World} {va vb:Value} {a b:List Int} (hA:RowR w va a) (hB:RowR w vb b) (hbig:a.length≤1000000) :
  Calls Tryz.prog 16 #[va,vb] w fun e w'=>e = .returned (.bool (decide (a=b)))∧Ext w w':=by
 obtain ⟨sa,ga,oa,ca,rfl,hca,hSa⟩:=hA;obtain ⟨sb,gb,ob,cb,rfl,hcb,hSb⟩:=hB
 by_cases hl:a.length=b.length
 ·obtain ⟨n,hn⟩ : ∃ n,n=a.length:=⟨_,rfl⟩
  rw [← hl];rw [← hn] at hbig ⊢;have HA:=hid hSa;have HB:=hid hSb;have Hn:=hid hn;have Hm:=hid (hn.trans hl);clear hSa hSb hl hn hca hcb
  go_enter Tryz.func16,Tryz.ntmps16
  go_wp2_with fail
  go_loopw [5] (fun idx wr => ∃ i:Nat,i≤n∧idx = .int .i64 i∧Hid (∀ j,j<i→a.getD j 0=b.getD j 0)∧Ext w wr) (fun idx _=>n-(intOf idx).toNat)
  case atStart=>exact ⟨0,by omega,by go_num,hid (fun j h=>by omega),Ext.refl _⟩
  case round =>
   obtain ⟨i,hi,rfl,Hz,hE⟩:=hrel;generalize wr=X at *
   by_cases hlt:i<n
   ·have hii:(i:Int)<(n:Int):=by omega
    have c1:=(HA.out.ext hE).cell i (.int .i64 (a[i]'(by rw [← Hn.out]; exact hlt))) (is_get (by rw [← Hn.out]; exact hlt));have c2:=(HB.out.ext hE).cell i (.int .i64 (b[i]'(by rw [← Hm.out]; exact hlt))) (is_get (by rw [← Hm.out]; exact hlt));obtain rfl:=HA.out.addr (by rw [is_length, ← Hn.out]; omega);obtain rfl:=HB.out.addr (by rw [is_length, ← Hm.out]; omega);obtain ⟨x,hx⟩ : ∃ x,x=a[i]'(by rw [← Hn.out]; exact hlt):=⟨_,rfl⟩
    obtain ⟨y,hy⟩ : ∃ y,y=b[i]'(by rw [← Hm.out]; exact hlt):=⟨_,rfl⟩
    rw [← hx] at c1;rw [← hy] at c2;have Hx:=hid (show a.getD i 0=x by rw [hx,getD_get (by rw [← Hn.out]; exact hlt)]);have Hy:=hid (show b.getD i 0=y by rw [hy,getD_get (by rw [← Hm.out]; exact hlt)]);clear hx hy
    by_cases hxy:x=y
    ·subst hxy;go_wp2_with fail
     go_quiet (fail)
     go_wp2_with fail;go_roundw
     case rel=>exact ⟨i+1,by omega,by go_num,hid (fun j hj=>by
      by_cases e:j=i
      ·subst e; rw [Hx.out,Hy.out]
      ·exact Hz.out j (by omega)),hE.drewN _⟩
     case measure=>simp [intOf] <;> omega
    ·have hb1:(x==y)=false:=beq_eq_false_iff_ne.2 hxy;have hb2:(x != y)=true:=by simp [bne,hb1]
     have Hne:=hid (show decide (a=b)=false from decide_eq_false (fun e=>hxy (by rw [← Hx.out, ← Hy.out,e])));go_wp2_with fail
     go_quiet (fail)
     go_wp2_with fail;go_ret;exact ⟨by rw [Hne.out]; rfl,hE.drewN _⟩
   ·have Heq:=hid (show decide (a=b)=true from decide_eq_true (sam_getD_ext (by rw [← Hn.out, ← Hm.out]) (fun j hj=>Hz.out j (by rw [← Hn.out] at hj; omega))));go_wp2_with fail;go_ret;exact ⟨by rw [Heq.out]; rfl,hE⟩
 ·have hne:decide (a=b)=false:=decide_eq_false (fun e=>hl (by rw [e]));rw [hne];have h1 : ¬ ((a.length:Int)=(b.length:Int)):=by omega
  have h2:((a.length:Int)==(b.length:Int))=false:=beq_eq_false_iff_ne.2 h1;have h3:((a.length:Int) != (b.length:Int))=true:=by simp [bne,h2]
  clear hSa hSb hca hcb hne;generalize a.length=n at *;generalize b.length=m at *
  go_enter Tryz.func16,Tryz.ntmps16
  go_wp2_with fail;go_ret;exact ⟨rfl,Ext.refl _⟩
end Go.Proofs.YtmhfccigejcphaaGreatDoor
