/- Part 18 of the proof of the claim: contracts of the functions that it reaches, and plain laws; no condition. -/
import Derived.Test.YtjnpakablgommaaGreatDoorV17
import Derived.Test.YtjnpakablgommaaGreatDoorV16
import Derived.Test.YtjnpakablgommaaGreatDoorV13
set_option maxRecDepth 100000
namespace Go.Proofs.YtjnpakablgommaaGreatDoor
open Hnf (V Span Ech Red)
def ln1 (M:Mx):List Ln:=M.map fun r=>(r,[])
@[simp] theorem ln1_length (M:Mx):(ln1 M).length=M.length:=by simp [ln1]
theorem ln1_dim {n:Nat} {M:Mx} (h:Rect n M):Dim n 0 (ln1 M):=by
 intro l hl
 obtain ⟨r,hr,rfl⟩:=List.mem_map.1 hl
 exact ⟨h r hr,rfl⟩
theorem ln1_lat (M:Mx):latL (ln1 M)=latM M:=by simp [latL,latM,ln1,Function.comp_def]
theorem form_of1 {n d:Nat} {ps:List Nat} {M:Mx} {ls:List Ln} (hM:Rect n M) (ho:Ops 0 (ln1 M) ls) (h:FormTo n d ps ls):HnfOf n M (fRows d ls):=by
 have hd0:=ln1_dim hM
 have hd:=hd0.ops ho
 have hl:=ho.lat hd0
 rw [ln1_lat] at hl
 have hf:=h.lat hd
 exact ⟨⟨ps,h.isH hd⟩,fun v hv=>hl.1 v (hf.1 v hv),fun v hv=>(hl.2 v hv).trans hf.2⟩
theorem FormTo.full {c c' d:Nat} {ps:List Nat} {ls:List Ln} (h:FormTo c d ps ls) (hd:d=ls.length) (hc:c≤c'):FormTo c' d ps ls :=
 ⟨h.len,h.le,fun i hi=>by have:=h.lt i hi; omega,h.inc,h.left,h.pos,h.red,fun i h1 h2=>by omega⟩
def sumZ (f:Nat→Int):Nat→Int
 | 0=>0
 | n+1=>sumZ f n+f n
theorem sumZ_congr {f g:Nat→Int} : ∀ {n},(∀ i,i<n→f i=g i)→sumZ f n=sumZ g n
 | 0,_=>rfl
 | n+1,h=>by rw [sumZ,sumZ,sumZ_congr (fun i hi=>h i (by omega)),h n (by omega)]
theorem sumZ_zero {f:Nat→Int} : ∀ {n},(∀ i,i<n→f i=0)→sumZ f n=0
 | 0,_=>rfl
 | n+1,h=>by rw [sumZ,sumZ_zero (fun i hi=>h i (by omega)),h n (by omega)]; rfl
theorem sumZ_sub (f g:Nat→Int) : ∀ n,sumZ (fun i=>f i-g i) n=sumZ f n-sumZ g n
 | 0=>rfl
 | n+1=>by rw [sumZ,sumZ,sumZ,sumZ_sub f g n]; omega
theorem sumZ_mul (q:Int) (f:Nat→Int) : ∀ n,sumZ (fun i=>q*f i) n=q*sumZ f n
 | 0=>by simp [sumZ]
 | n+1=>by rw [sumZ,sumZ,sumZ_mul q f n,Int.mul_add]
theorem sumZ_one {f:Nat→Int} {k:Nat} : ∀ {n},k<n→(∀ i,i<n→i≠k→f i=0)→sumZ f n=f k
 | 0,h,_=>by omega
 | n+1,h,hz=>by
  rw [sumZ]
  by_cases e:k=n
  ·subst e; rw [sumZ_zero (fun i hi=>hz i (by omega) (by omega))]; omega
  ·rw [sumZ_one (n:=n) (by omega) (fun i hi=>hz i (by omega)),hz n (by omega) (Ne.symm e)]; omega
def cmb (M:Mx) (y:V):V:=fun j=>sumZ (fun i=>y i*eM M i j) M.length
theorem cmb_sub (M:Mx) (y z:V) (q:Int) (j:Nat):cmb M (Hnf.sub y q z) j=cmb M y j-q*cmb M z j:=by
 unfold cmb
 rw [← sumZ_mul, ← sumZ_sub]
 exact sumZ_congr fun i _=>by simp only [Hnf.sub]; grind
theorem cmb_zero (M:Mx) (j:Nat):cmb M (fun _=>0) j=0:=sumZ_zero fun i _=>by simp
def wideM (M:Mx):Mx:=M.mapIdx fun i r=>r++unitR M.length i
@[simp] theorem wideM_length (M:Mx):(wideM M).length=M.length:=by simp [wideM]
theorem wideM_get {M:Mx} {i:Nat} (h:i<M.length):(wideM M)[i]'(by simpa using h)=M[i]++unitR M.length i:=by simp [wideM]
theorem wideM_rect {c:Nat} {M:Mx} (h:Rect c M):Rect (c+M.length) (wideM M):=by
 intro r hr
 obtain ⟨i,hi,rfl⟩:=List.getElem_of_mem hr
 rw [wideM_get (by simpa using hi),List.length_append,h _ (List.getElem_mem _)]
 simp [unitR]
theorem unitR_getD (m i j:Nat):(unitR m i).getD j 0=if j=i∧i<m then 1 else 0:=by
 unfold unitR
 rw [List.getD_eq_getElem?_getD,List.getElem?_set]
 by_cases e:i=j
 ·subst e
  by_cases h:i<m
  ·simp [h]
  ·simp [h]
 ·rw [if_neg e,if_neg (by omega),List.getElem?_replicate]
  split <;> rfl
theorem wide_vr {c:Nat} {M:Mx} (hR:Rect c M) {i:Nat} (h:i<M.length) (j:Nat):vr ((wideM M)[i]'(by simpa using h)) j=if j<c then eM M i j else if j=c+i then 1 else 0:=by
 have hl:M[i].length=c:=hR _ (List.getElem_mem h)
 rw [wideM_get h]
 unfold vr eM
 rw [getD_get h]
 simp only [List.getD_eq_getElem?_getD]
 by_cases hj:j<c
 ·rw [if_pos hj,List.getElem?_append_left (by omega)]
 ·rw [if_neg hj,List.getElem?_append_right (by omega), ← List.getD_eq_getElem?_getD,unitR_getD,hl]
  by_cases e:j=c+i
  ·rw [if_pos e,if_pos (by omega)]
  ·rw [if_neg e,if_neg (by omega)]
theorem eM_far {c:Nat} {M:Mx} (hR:Rect c M) {i j:Nat} (hj:c≤j):eM M i j=0:=by
 unfold eM
 rcases Nat.lt_or_ge i M.length with hi | hi
 ·rw [getD_get hi,List.getD_eq_getElem?_getD,List.getElem?_eq_none (by rw [hR _ (List.getElem_mem hi)]; exact hj)]; rfl
 ·simp only [List.getD_eq_getElem?_getD]; rw [List.getElem?_eq_none hi]; rfl
theorem eM_vr {M:Mx} {i:Nat} (h:i<M.length) (j:Nat):eM M i j=vr M[i] j:=by unfold eM vr; rw [getD_get h]
theorem wide_span {c:Nat} {M:Mx} (hR:Rect c M) {v:V} (h:Span (latM (wideM M)) v):(∀ j,j<c→v j=cmb M (fun i=>v (c+i)) j) ∧ ∀ j,c+M.length≤j→v j=0:=by
 induction h with
 | zero=>exact ⟨fun j _=>(cmb_zero M j).symm,fun _ _=>rfl⟩
 | @step v r q _ hr ih =>
  obtain ⟨x,hx,rfl⟩:=List.mem_map.1 hr
  obtain ⟨i,hi,rfl⟩:=List.getElem_of_mem hx
  have hi':i<M.length:=by simpa using hi
  refine ⟨fun j hj => ?_,fun j hj => ?_⟩
  ·have e:(fun k=>Hnf.sub v q (vr (wideM M)[i]) (c+k))=Hnf.sub (fun k=>v (c+k)) q (fun k=>if k=i then 1 else 0):=by
    funext k
    simp only [Hnf.sub,wide_vr hR hi']
    rw [if_neg (by omega)]
    by_cases e:k=i
    ·rw [if_pos (by omega),if_pos e]
    ·rw [if_neg (by omega),if_neg e]
   rw [e,cmb_sub]
   have e2:cmb M (fun k=>if k=i then 1 else 0) j=eM M i j:=by
    unfold cmb
    rw [sumZ_one (k:=i) hi' (fun t _ ht=>by simp only [if_neg ht]; simp)]
    simp
   rw [e2]
   simp only [Hnf.sub,wide_vr hR hi',if_pos hj, ← ih.1 j hj]
  ·simp only [Hnf.sub,wide_vr hR hi',ih.2 j hj]
   rw [if_neg (by omega),if_neg (by omega)]; simp
theorem span_sum {M:List V} {f:Nat→V} (y:V) : ∀ {n:Nat},(∀ i,i<n→Span M (f i))→Span M (fun j=>sumZ (fun i=>y i*f i j) n)
 | 0,_ => .zero
 | n+1,h=>by
  have h1:=span_sum y (n:=n) (fun i hi=>h i (by omega))
  refine span_of_eq (h1.sub (-(y n)) (h n (by omega))) fun j => ?_
  simp only [Hnf.sub,sumZ]; grind
theorem span_wide {c:Nat} {M:Mx} (hR:Rect c M) {v:V} (h1 : ∀ j,j<c→v j=cmb M (fun i=>v (c+i)) j) (h2 : ∀ j,c+M.length≤j→v j=0):Span (latM (wideM M)) v:=by
 have hs:=span_sum (M:=latM (wideM M)) (f:=fun i=>vr ((wideM M).getD i [])) (fun i=>v (c+i)) (n:=M.length) (fun i hi=>by
  rw [getD_get (by simpa using hi)]; exact .mem (List.mem_map.2 ⟨_,List.getElem_mem _,rfl⟩))
 refine span_of_eq hs fun j => ?_
 have e : ∀ i,i<M.length→v (c+i)*vr ((wideM M).getD i []) j=v (c+i)*(if j<c then eM M i j else if j=c+i then 1 else 0):=fun i hi=>by
  rw [getD_get (by simpa using hi),wide_vr hR hi]
 rw [sumZ_congr e]
 by_cases hj:j<c
 ·rw [h1 j hj]; unfold cmb; exact sumZ_congr fun i _=>by rw [if_pos hj]
 ·by_cases hj2:j<c+M.length
  ·rw [sumZ_one (k:=j-c) (by omega) (fun i hi hne=>by rw [if_neg hj,if_neg (by omega)]; simp),if_neg hj,if_pos (by omega),show c+(j-c)=j by omega]; simp
  ·rw [h2 j (by omega),sumZ_zero fun i hi=>by rw [if_neg hj,if_neg (by omega)]; simp]
theorem span_cmb {M:Mx} {v:V}:Span (latM M) v ↔ ∃ y,v=cmb M y:=by
 constructor
 ·intro h
  induction h with
  | zero=>exact ⟨fun _=>0,by funext j; exact (cmb_zero M j).symm⟩
  | @step v r q _ hr ih =>
   obtain ⟨y,rfl⟩:=ih
   obtain ⟨x,hx,rfl⟩:=List.mem_map.1 hr
   obtain ⟨i,hi,rfl⟩:=List.getElem_of_mem hx
   refine ⟨Hnf.sub y q (fun k=>if k=i then 1 else 0),?_⟩
   funext j
   rw [cmb_sub]
   have e2:cmb M (fun k=>if k=i then 1 else 0) j=eM M i j:=by
    unfold cmb
    rw [sumZ_one (k:=i) hi (fun t _ ht=>by simp only [if_neg ht]; simp)]
    simp
   rw [e2,eM_vr hi]; rfl
 ·rintro ⟨y,rfl⟩
  have hs:=span_sum (M:=latM M) (f:=fun i=>vr (M.getD i [])) y (n:=M.length) (fun i hi=>by
   rw [getD_get hi]; exact .mem (List.mem_map.2 ⟨_,List.getElem_mem _,rfl⟩))
  exact hs
def upr (c:Nat) (H:Mx):Mx:=H.filter fun r=>decide (pv r<c)
def low (c:Nat) (H:Mx):Mx:=H.filter fun r => !decide (pv r<c)
def krn (c:Nat) (H:Mx):Mx:=(low c H).map (List.drop c)
theorem split_at (P:Nat→Prop) (hm : ∀ i j,i<j → ¬ P i → ¬ P j) : ∀ k,∃ u,u≤k∧(∀ i,i<u→P i) ∧ ∀ i,u≤i→i<k → ¬ P i
 | 0=>⟨0,by omega,fun i h=>by omega,fun i _ h=>by omega⟩
 | k+1=>by
  obtain ⟨u,hu,h1,h2⟩:=split_at P hm k
  by_cases hk:P k
  ·have:u=k:=Classical.byContradiction fun hne=>hm u k (by omega) (h2 u (Nat.le_refl _) (by omega)) hk
   subst this
   exact ⟨u+1,by omega,fun i hi=>by
    rcases Nat.lt_or_ge i u with h | h
    ·exact h1 i h
    ·have:i=u:=by omega
     subst this; exact hk,fun i h h'=>by omega⟩
  ·exact ⟨u,by omega,h1,fun i hi hik=>by
    by_cases e:i=k
    ·subst e; exact hk
    ·exact h2 i hi (by omega)⟩
theorem filter_take {α:Type} {p:α→Bool} : ∀ {l:List α} {u:Nat},(∀ i (h:i<l.length),i<u→p l[i]=true)→(∀ i (h:i<l.length),u≤i→p l[i]=false)→l.filter p=l.take u∧l.filter (fun a => !p a)=l.drop u
 | [],u,_,_=>by simp
 | a::l,0,_,h2=>by
  have ih:=filter_take (l:=l) (u:=0) (p:=p) (fun i h hi=>by omega) (fun i h _=>by have:=h2 (i+1) (by simpa using h) (by omega); simpa using this)
  have ha:=h2 0 (by simp) (by omega)
  simp only [List.getElem_cons_zero] at ha
  rw [List.filter_cons_of_neg (by simp [ha]),List.filter_cons_of_pos (by simp [ha]),ih.1,ih.2]
  simp
 | a::l,u+1,h1,h2=>by
  have ih:=filter_take (l:=l) (u:=u) (p:=p) (fun i h hi=>by have:=h1 (i+1) (by simpa using h) (by omega); simpa using this) (fun i h hi=>by have:=h2 (i+1) (by simpa using h) (by omega); simpa using this)
  have ha:=h1 0 (by simp) (by omega)
  simp only [List.getElem_cons_zero] at ha
  rw [List.filter_cons_of_pos ha,List.filter_cons_of_neg (by simp [ha]),ih.1,ih.2]
  simp
theorem IsH.pvs {n:Nat} {ps:List Nat} {H:Mx} (h:IsH n ps H) {i:Nat} (hi:i<H.length):ps.getD i 0=pv (H.getD i []):=by
 rw [isH_pv h,getD_map pv H i hi 0 []]
theorem IsH.split {n:Nat} {ps:List Nat} {H:Mx} (h:IsH n ps H) (c:Nat) : ∃ u,u≤H.length∧upr c H=H.take u∧low c H=H.drop u∧(∀ i,i<u→ps.getD i 0<c) ∧ ∀ i,u≤i→i<H.length→c≤ps.getD i 0:=by
 obtain ⟨u,hu,h1,h2⟩:=split_at (fun i=>i<H.length∧ps.getD i 0<c) (fun i j hij hn hp=>hn ⟨by omega,by have:=h.inc i j hij hp.1; omega⟩) H.length
 have hf:=filter_take (p:=fun r=>decide (pv r<c)) (l:=H) (u:=u) (fun i hi hiu=>by
  have:=(h1 i hiu).2
  rw [h.pvs hi,getD_get hi] at this
  exact decide_eq_true this) (fun i hi hiu=>by
  have:=h2 i hiu hi
  refine decide_eq_false fun hc=>this ⟨hi,?_⟩
  rw [h.pvs hi,getD_get hi]; exact hc)
 exact ⟨u,hu,hf.1,hf.2,fun i hi=>(h1 i hi).2,fun i hi hl=>Classical.byContradiction fun hc=>h2 i hi hl ⟨hl,by omega⟩⟩
theorem subK_take (k:Int) (c:Nat) : ∀ (a b:List Int),b.length≤a.length→(subK k a b).take c=subK k (a.take c) (b.take c):=by
 induction c with
 | zero=>intro a b _; simp [subK]
 | succ c ih =>
  intro a b h
  cases b with
  | nil=>simp [subK_nil]
  | cons y b =>
   cases a with
   | nil=>simp at h
   | cons x a=>simp only [subK,List.take_succ_cons]; rw [ih a b (by simpa using h)]
theorem getD_take {l:List Int} {c j:Nat} (h:j<c):(l.take c).getD j 0=l.getD j 0:=by
 simp only [List.getD_eq_getElem?_getD,List.getElem?_take,if_pos h]
theorem getD_drop (l:List Int) (c j:Nat):(l.drop c).getD j 0=l.getD (c+j) 0:=by
 simp only [List.getD_eq_getElem?_getD,List.getElem?_drop]
theorem pv_take {r:List Int} {c:Nat} (h:pv r<c) (hr:pv r<r.length):pv (r.take c)=pv r:=by
 refine (pv_of (p:=pv r) ?_ fun j hj => ?_).1
 ·rw [getD_take h]; exact pv_ne hr
 ·rw [getD_take (by omega)]; exact pv_zero hj
theorem redX_left {m c:Nat} : ∀ (U:Mx) (l:List Int),Rect m U→l.length=m→(∀ r∈U,pv r<c∧pv r<m)→(redX U l).take c=redX (U.map (List.take c)) (l.take c)
 | [],l,_,_,_=>rfl
 | r::U,l,hR,hl,hp=>by
  have hr:r.length=m:=hR r (by simp)
  obtain ⟨p1,p2⟩:=hp r (by simp)
  rw [redX,List.map_cons,redX,redX_left U _ (fun s hs=>hR s (by simp [hs])) (by simp [hl]) (fun s hs=>hp s (by simp [hs])),subK_take _ _ _ _ (by omega)]
  have e:stepQ (r.take c) (l.take c)=stepQ r l:=by
   unfold stepQ
   rw [pv_take p1 (by omega),getD_take p1,getD_take p1]
  rw [e]
theorem eM_map_take {c:Nat} {H:Mx} {i j:Nat} (hj:j<c):eM (H.map (List.take c)) i j=eM H i j:=by
 unfold eM
 rcases Nat.lt_or_ge i H.length with hi | hi
 ·rw [getD_map (List.take c) H i hi [] [],getD_take hj]
 ·rw [show (H.map (List.take c)).getD i []=[] by rw [List.getD_eq_getElem?_getD,List.getElem?_eq_none (by simpa using hi)]; rfl,show H.getD i []=[] by rw [List.getD_eq_getElem?_getD,List.getElem?_eq_none hi]; rfl]
theorem eM_map_drop {c:Nat} {H:Mx} {i j:Nat}:eM (H.map (List.drop c)) i j=eM H i (c+j):=by
 unfold eM
 rcases Nat.lt_or_ge i H.length with hi | hi
 ·rw [getD_map (List.drop c) H i hi [] [],getD_drop]
 ·rw [show (H.map (List.drop c)).getD i []=[] by rw [List.getD_eq_getElem?_getD,List.getElem?_eq_none (by simpa using hi)]; rfl,show H.getD i []=[] by rw [List.getD_eq_getElem?_getD,List.getElem?_eq_none hi]; rfl]; rfl
theorem eM_take {H:Mx} {u i j:Nat} (h:i<u):eM (H.take u) i j=eM H i j:=by
 unfold eM; simp only [List.getD_eq_getElem?_getD,List.getElem?_take,if_pos h]
theorem eM_drop {H:Mx} {u i j:Nat}:eM (H.drop u) i j=eM H (u+i) j:=by
 unfold eM; simp only [List.getD_eq_getElem?_getD,List.getElem?_drop]
theorem getD_takeN {l:List Nat} {u i:Nat} (h:i<u):(l.take u).getD i 0=l.getD i 0:=by
 simp only [List.getD_eq_getElem?_getD,List.getElem?_take,if_pos h]
theorem IsH.leftU {n c u:Nat} {ps:List Nat} {H:Mx} (h:IsH n ps H) (hc:c≤n) (hu:u≤H.length) (hp : ∀ i,i<u→ps.getD i 0<c):IsH c (ps.take u) ((H.take u).map (List.take c)):=by
 have hl:((H.take u).map (List.take c)).length=u:=by simp; omega
 have hpl:=h.len
 refine ⟨fun r hr => ?_,by simp; omega,fun i hi => ?_,fun i k hik hk => ?_,fun i hi j hj => ?_,fun i hi => ?_,fun i k hik hk => ?_⟩
 ·obtain ⟨s,hs,rfl⟩:=List.mem_map.1 hr
  rw [List.length_take,h.rect s (List.mem_of_mem_take hs)]; omega
 ·rw [getD_takeN (by omega)]; exact hp i (by omega)
 ·rw [getD_takeN (by omega),getD_takeN (by omega)]; exact h.inc i k hik (by omega)
 ·rw [getD_takeN (by omega)] at hj
  have:=hp i (by omega)
  rw [eM_map_take (by omega),eM_take (by omega)]; exact h.left i (by omega) j hj
 ·rw [getD_takeN (by omega),eM_map_take (hp i (by omega)),eM_take (by omega)]; exact h.pos i (by omega)
 ·rw [getD_takeN (by omega),eM_map_take (hp k (by omega)),eM_map_take (hp k (by omega)),eM_take (by omega),eM_take (by omega)]; exact h.red i k hik (by omega)
theorem IsH.rightD {n c m u:Nat} {ps:List Nat} {H:Mx} (h:IsH n ps H) (hn:n=c+m) (hu:u≤H.length) (hp : ∀ i,u≤i→i<H.length→c≤ps.getD i 0):IsH m ((ps.drop u).map (fun p=>p-c)) ((H.drop u).map (List.drop c)):=by
 have hl:((H.drop u).map (List.drop c)).length=H.length-u:=by simp
 have hpl:=h.len
 have hps : ∀ i,i<H.length-u→((ps.drop u).map (fun p=>p-c)).getD i 0=ps.getD (u+i) 0-c:=fun i hi=>by
  rw [List.getD_eq_getElem?_getD,List.getElem?_map,List.getElem?_drop,List.getElem?_eq_getElem (by omega),getD_get (by omega)]; rfl
 refine ⟨fun r hr => ?_,by simp; omega,fun i hi => ?_,fun i k hik hk => ?_,fun i hi j hj => ?_,fun i hi => ?_,fun i k hik hk => ?_⟩
 ·obtain ⟨s,hs,rfl⟩:=List.mem_map.1 hr
  rw [List.length_drop,h.rect s (List.mem_of_mem_drop hs)]; omega
 ·rw [hps i (by omega)]; have:=h.lt (u+i) (by omega); have:=hp (u+i) (by omega) (by omega); omega
 ·rw [hps i (by omega),hps k (by omega)]
  have:=h.inc (u+i) (u+k) (by omega) (by omega)
  have:=hp (u+i) (by omega) (by omega); omega
 ·rw [hps i (by omega)] at hj
  rw [eM_map_drop,eM_drop]; exact h.left (u+i) (by omega) _ (by omega)
 ·rw [hps i (by omega),eM_map_drop,eM_drop]
  have:=hp (u+i) (by omega) (by omega)
  rw [show c+(ps.getD (u+i) 0-c)=ps.getD (u+i) 0 by omega]; exact h.pos (u+i) (by omega)
 ·have:=hp (u+k) (by omega) (by omega)
  rw [hps k (by omega),eM_map_drop,eM_map_drop,eM_drop,eM_drop,show c+(ps.getD (u+k) 0-c)=ps.getD (u+k) 0 by omega]; exact h.red (u+i) (u+k) (by omega) (by omega)
end Go.Proofs.YtjnpakablgommaaGreatDoor
namespace Go.Proofs.YtjnpakablgommaaGreatDoor
open Go.RowKit Go.Sort
def rowsL (ls:List Ln):Mx:=ls.map (·.1)
@[simp] theorem rowsL_length (ls:List Ln):(rowsL ls).length=ls.length:=by simp [rowsL]
theorem rowsL_getD (ls:List Ln) (i:Nat):(rowsL ls).getD i []=(ls.getD i default).1:=by
 unfold rowsL
 simp only [List.getD_eq_getElem?_getD,List.getElem?_map]
 cases ls[i]? <;> rfl
theorem rowsL_set (ls:List Ln) (i:Nat) (l:Ln):rowsL (ls.set i l)=(rowsL ls).set i l.1:=by simp [rowsL,List.map_set]
theorem rowsL_swp (ls:List Ln) (i j:Nat):rowsL (swp ls i j)=sw2 (rowsL ls) [] i j:=by
 unfold swp sw2
 rw [rowsL_set,rowsL_set,rowsL_getD,rowsL_getD]
theorem rowsL_ln1 (M:Mx):rowsL (ln1 M)=M:=by simp [rowsL,ln1,Function.comp_def]
structure Gr (B:Nat) (w:World) (g cap N n:Nat) (ad:List (Nat×Nat)) (ls:List Ln):Prop where
 gr:GrX B w (slv g N cap) (rowsL ls) ad
 len:ls.length=N
 dim:Dim n 0 ls
theorem Gr.ext {B:Nat} {w w':World} {g cap N n:Nat} {ad:List (Nat×Nat)} {ls:List Ln} (h:Gr B w g cap N n ad ls) (he:Ext w w'):Gr B w' g cap N n ad ls:=⟨h.gr.ext he,h.len,h.dim⟩
theorem Gr.rect {B:Nat} {w:World} {g cap N n:Nat} {ad:List (Nat×Nat)} {ls:List Ln} (h:Gr B w g cap N n ad ls):Rect n (rowsL ls):=fun r hr=>by
 obtain ⟨l,hl,rfl⟩:=List.mem_map.1 hr; exact (h.dim l hl).1
theorem Gr.grl {B:Nat} {w:World} {g cap N n:Nat} {ad:List (Nat×Nat)} {ls:List Ln} (h:Gr B w g cap N n ad ls):GrX B w (slv g (rowsL ls).length cap) (rowsL ls) ad:=by
 have:=h.gr; rwa [← h.len, ← rowsL_length] at this
theorem Gr.base {B:Nat} {w:World} {g cap N n:Nat} {ad:List (Nat×Nat)} {ls:List Ln} (h:Gr B w g cap N n ad ls):B≤g∧g<w.heap.size:=h.grl.outer.lt
theorem Gr.fz {B:Nat} {w:World} {g cap N n:Nat} {ad:List (Nat×Nat)} {ls:List Ln} (h:Gr B w g cap N n ad ls) (o:Nat):w.frozen? ⟨g,o,none⟩=false:=h.grl.outer.frozen o
theorem ss_at {r:List Int} {c:Nat} (h:c<r.length) (h':c<(ss r).length):(ss r)[c]=I (r.getD c 0):=by rw [getD_get h]; simp [ss]
theorem Gr.ln {B:Nat} {w:World} {g cap N n d i c:Nat} {ad:List (Nat×Nat)} {ls:List Ln} (h:Gr B w g cap N n ad ls) (hi:d+i<N) (hc:c<n) :
  ∃ gx cx,ad[d+i]? = some (gx,cx)∧w.cell? ⟨g,d+i,none⟩=some (slv gx n cx)∧w.cell? ⟨gx,c,none⟩=some (I (cols c d ls i))∧OwnV 79 B w gx cx (ss (ls.getD (d+i) default).1)∧gx≠g:=by
 obtain ⟨gx,cx,h1,h2,h3,h4,h5⟩:=h.grl.at h.rect (by omega) (i:=d+i) (by rw [rowsL_length,h.len]; exact hi)
 rw [rowsL_getD] at h3 h5
 refine ⟨gx,cx,h1,h2,?_,h3,h4⟩
 rw [h3.cell (j:=c) (by rw [ss_length,h5]; exact hc)]
 exact congrArg some (ss_at (by rw [h5]; exact hc) _)
theorem Gr.ne {B:Nat} {w:World} {g cap N n i t gx cx gt ct:Nat} {ad:List (Nat×Nat)} {ls:List Ln} (h:Gr B w g cap N n ad ls) (hn:0<n) (hi:i<N) (ht:t<N) (hne:i≠t) (hai:ad[i]? = some (gx,cx)) (hat:ad[t]? = some (gt,ct)):gx≠gt:=by
 obtain ⟨h1,e1⟩:=List.getElem?_eq_some_iff.1 hai
 obtain ⟨h2,e2⟩:=List.getElem?_eq_some_iff.1 hat
 have hl : ∀ j (hj:j<(rowsL ls).length),0<(rowsL ls)[j].length:=fun j hj=>by rw [h.rect _ (List.getElem_mem hj)]; exact hn
 have hi':i<(rowsL ls).length:=by rw [rowsL_length,h.len]; exact hi
 have ht':t<(rowsL ls).length:=by rw [rowsL_length,h.len]; exact ht
 have:=h.gr.dis i t h1 h2 hi' ht' (hl i hi') (hl t ht') hne
 rw [e1,e2] at this
 exact this
theorem Gr.wrote {B:Nat} {w w':World} {g cap N n i gx cx:Nat} {ad:List (Nat×Nat)} {ls:List Ln} (h:Gr B w g cap N n ad ls) (hn:0<n) (hi:i<N) (hai:ad[i]? = some (gx,cx)) {l:Ln} (hl:l.1.length=n∧l.2.length=0)
  (hO:OwnV 79 B w' gx cx (ss l.1)) (hG:w.grownBy w' (some gx)):Gr B w' g cap N n ad (ls.set i l):=by
 have hi':i<(rowsL ls).length:=by rw [rowsL_length,h.len]; exact hi
 have h1:=h.grl.wrote hi' hai (r:=l.1) (by rw [rowsL_getD,hl.1,(h.dim.getD (by rw [h.len]; exact hi)).1]) (by omega) hO (Chg.of_grown hG rfl)
 rw [← rowsL_set,rowsL_length,h.len] at h1
 exact ⟨h1,by rw [List.length_set]; exact h.len,h.dim.set i hl⟩
theorem Gr.swap {B:Nat} {w:World} {g cap N n i j gi ci gj cj:Nat} {ad:List (Nat×Nat)} {ls:List Ln} (h:Gr B w g cap N n ad ls) (hn:0<n) (hi:i<N) (hj:j<N) (hai:ad[i]? = some (gi,ci)) (haj:ad[j]? = some (gj,cj)) :
  Gr B ((w.setCell ⟨g,i,none⟩ (slv gj n cj)).setCell ⟨g,j,none⟩ (slv gi n ci)) g cap N n (sw2 ad (0,0) i j) (swp ls i j)
   ∧ w.grownBy ((w.setCell ⟨g,i,none⟩ (slv gj n cj)).setCell ⟨g,j,none⟩ (slv gi n ci)) (some g):=by
 have hi':i<(rowsL ls).length:=by rw [rowsL_length,h.len]; exact hi
 have hj':j<(rowsL ls).length:=by rw [rowsL_length,h.len]; exact hj
 obtain ⟨h1,h2,h3⟩:=h.grl.swapped h.rect hn hi' hj' hai haj
 rw [← rowsL_swp,rowsL_length,h.len] at h1
 refine ⟨⟨h1,by rw [swp_length]; exact h.len,?_⟩,h2⟩
 unfold swp
 exact (h.dim.set i (h.dim.getD (by rw [h.len]; exact hj))).set j (h.dim.getD (by rw [h.len]; exact hi))
theorem take_lines {w0 w:World} {g cap N n i t E gx cx gt ct:Nat} {q:Int} {ad:List (Nat×Nat)} {ls:List Ln} (h:Gr w0.heap.size w g cap N n ad ls) (hn:0<n) (hn2:n≤1000000) (hi:i<N) (ht:t<N) (hne:i≠t)
  (hai:ad[i]? = some (gx,cx)) (hat:ad[t]? = some (gt,ct)) (hA:All (fun z=>z.natAbs<2^E) (ls.getD i default)) (hB:All (fun z=>z.natAbs<2^E) (ls.getD t default)) (hq:q.natAbs<2^E) (hE:2*E+2<LIM) (hL:Laid w0) (hE0:Ext w0 w) :
  Calls Tryz.prog 243 #[slv gx n cx,slv gt n ct,I q] w fun e w' =>
   e = .returned (.tuple #[])∧Gr w0.heap.size w' g cap N n ad (ls.set i (lsub q (ls.getD i default) (ls.getD t default)))∧Ext w0 w'∧w.grownBy w' (some gx):=by
 have li:=h.dim.getD (i:=i) (by rw [h.len]; exact hi)
 have lt:=h.dim.getD (i:=t) (by rw [h.len]; exact ht)
 obtain ⟨gx',cx',a1,a2,a3,a4,a5⟩:=h.grl.at h.rect hn (i:=i) (by rw [rowsL_length,h.len]; exact hi)
 obtain ⟨gt',ct',b1,b2,b3,b4,b5⟩:=h.grl.at h.rect hn (i:=t) (by rw [rowsL_length,h.len]; exact ht)
 rw [hai] at a1
 rw [hat] at b1
 injection a1 with a1
 injection b1 with b1
 injection a1 with e1 e2
 injection b1 with e3 e4
 subst e1 e2 e3 e4
 rw [rowsL_getD] at a3 b3
 have hk:=stake_any (w0:=w0) (w:=w) (ga:=gx) (ca:=cx) (k:=q) (cb:=ct) a3 b3.sl (Ne.symm (h.ne hn hi ht hne hai hat)) (by rw [lt.1,li.1]) (by rw [li.1]; exact hn2) (less_big hA.1 hB.1 hq hE) hL hE0
 rw [li.1] at hk
 refine hk.mono ?_
 rintro e w' ⟨rfl,hO,hG⟩
 exact ⟨rfl,h.wrote hn hi hai (l:=lsub q (ls.getD i default) (ls.getD t default)) ⟨by show (subK q _ _).length=n; rw [subK_length]; exact li.1,by show (subK q _ _).length=0; rw [subK_length]; exact li.2⟩ hO hG,ext_trans_grown hE0 hG a3.lt.1,hG⟩
theorem turn_lines {w0 w:World} {g cap N n i E gx cx:Nat} {ad:List (Nat×Nat)} {ls:List Ln} (h:Gr w0.heap.size w g cap N n ad ls) (hn:0<n) (hn2:n≤1000000) (hi:i<N)
  (hai:ad[i]? = some (gx,cx)) (hA:All (fun z=>z.natAbs<2^E) (ls.getD i default)) (hE:2*E+2<LIM) (hE0:Ext w0 w) :
  Calls Tryz.prog 189 #[slv gx n cx] w fun e w' =>
   e = .returned (.tuple #[])∧Gr w0.heap.size w' g cap N n ad (ls.set i (lneg (ls.getD i default)))∧Ext w0 w'∧w.grownBy w' (some gx):=by
 have li:=h.dim.getD (i:=i) (by rw [h.len]; exact hi)
 obtain ⟨gx',cx',a1,a2,a3,a4,a5⟩:=h.grl.at h.rect hn (i:=i) (by rw [rowsL_length,h.len]; exact hi)
 rw [hai] at a1
 injection a1 with a1
 injection a1 with e1 e2
 subst e1 e2
 rw [rowsL_getD] at a3
 refine (sturn_row (B:=w0.heap.size) (w:=w) a3 li.1 hn2 (fun z hz=>by have:=nd_lt2 (hA.1 z hz); omega)).mono ?_
 rintro e w' ⟨rfl,hO,hG⟩
 exact ⟨rfl,h.wrote hn hi hai (l:=lneg (ls.getD i default)) ⟨by show (List.map _ _).length=n; rw [List.length_map]; exact li.1,by show (List.map _ _).length=0; rw [List.length_map]; exact li.2⟩ hO hG,ext_trans_grown hE0 hG a3.lt.1,hG⟩
structure Lr (B:Nat) (w:World) (g cap N n:Nat) (ad:List (Nat×Nat)) (ls:List Ln):Prop where
 gr:LrX B w (slv g N cap) (rowsL ls) ad
 len:ls.length=N
 dim:Dim n 0 ls
theorem Lr.ext {B:Nat} {w w':World} {g cap N n:Nat} {ad:List (Nat×Nat)} {ls:List Ln} (h:Lr B w g cap N n ad ls) (he:Ext w w'):Lr B w' g cap N n ad ls:=⟨h.gr.ext he,h.len,h.dim⟩
theorem Lr.rect {B:Nat} {w:World} {g cap N n:Nat} {ad:List (Nat×Nat)} {ls:List Ln} (h:Lr B w g cap N n ad ls):Rect n (rowsL ls):=fun r hr=>by
 obtain ⟨l,hl,rfl⟩:=List.mem_map.1 hr; exact (h.dim l hl).1
theorem Lr.grl {B:Nat} {w:World} {g cap N n:Nat} {ad:List (Nat×Nat)} {ls:List Ln} (h:Lr B w g cap N n ad ls):LrX B w (slv g (rowsL ls).length cap) (rowsL ls) ad:=by
 have:=h.gr; rwa [← h.len, ← rowsL_length] at this
theorem Lr.base {B:Nat} {w:World} {g cap N n:Nat} {ad:List (Nat×Nat)} {ls:List Ln} (h:Lr B w g cap N n ad ls):B≤g∧g<w.heap.size:=h.grl.outer.lt
theorem Lr.fz {B:Nat} {w:World} {g cap N n:Nat} {ad:List (Nat×Nat)} {ls:List Ln} (h:Lr B w g cap N n ad ls) (o:Nat):w.frozen? ⟨g,o,none⟩=false:=h.grl.outer.frozen o
theorem Lr.ln {B:Nat} {w:World} {g cap N n d i c:Nat} {ad:List (Nat×Nat)} {ls:List Ln} (h:Lr B w g cap N n ad ls) (hi:d+i<N) (hc:c<n) :
  ∃ gx cx,ad[d+i]? = some (gx,cx)∧w.cell? ⟨g,d+i,none⟩=some (slv gx n cx)∧w.cell? ⟨gx,c,none⟩=some (I (cols c d ls i))∧OwnV 79 B w gx cx (ss (ls.getD (d+i) default).1)∧gx≠g:=by
 obtain ⟨gx,cx,h1,h2,h3,h4,h5⟩:=h.grl.at h.rect (by omega) (i:=d+i) (by rw [rowsL_length,h.len]; exact hi)
 rw [rowsL_getD] at h3 h5
 refine ⟨gx,cx,h1,h2,?_,h3,h4⟩
 rw [h3.cell (j:=c) (by rw [ss_length,h5]; exact hc)]
 exact congrArg some (ss_at (by rw [h5]; exact hc) _)
theorem Lr.ne {B:Nat} {w:World} {g cap N n i t gx cx gt ct:Nat} {ad:List (Nat×Nat)} {ls:List Ln} (h:Lr B w g cap N n ad ls) (hn:0<n) (hi:i<N) (ht:t<N) (hne:i≠t) (hai:ad[i]? = some (gx,cx)) (hat:ad[t]? = some (gt,ct)):gx≠gt:=by
 obtain ⟨h1,e1⟩:=List.getElem?_eq_some_iff.1 hai
 obtain ⟨h2,e2⟩:=List.getElem?_eq_some_iff.1 hat
 have hl : ∀ j (hj:j<(rowsL ls).length),0<(rowsL ls)[j].length:=fun j hj=>by rw [h.rect _ (List.getElem_mem hj)]; exact hn
 have hi':i<(rowsL ls).length:=by rw [rowsL_length,h.len]; exact hi
 have ht':t<(rowsL ls).length:=by rw [rowsL_length,h.len]; exact ht
 have:=h.gr.dis i t h1 h2 hi' ht' (hl i hi') (hl t ht') hne
 rw [e1,e2] at this
 exact this
theorem Lr.wrote {B:Nat} {w w':World} {g cap N n i gx cx:Nat} {ad:List (Nat×Nat)} {ls:List Ln} (h:Lr B w g cap N n ad ls) (hn:0<n) (hi:i<N) (hai:ad[i]? = some (gx,cx)) {l:Ln} (hl:l.1.length=n∧l.2.length=0)
  (hO:OwnV 79 B w' gx cx (ss l.1)) (hG:w.grownBy w' (some gx)):Lr B w' g cap N n ad (ls.set i l):=by
 have hi':i<(rowsL ls).length:=by rw [rowsL_length,h.len]; exact hi
 have h1:=h.grl.wrote hi' hai (r:=l.1) (by rw [rowsL_getD,hl.1,(h.dim.getD (by rw [h.len]; exact hi)).1]) (by omega) hO (Chg.of_grown hG rfl)
 rw [← rowsL_set,rowsL_length,h.len] at h1
 exact ⟨h1,by rw [List.length_set]; exact h.len,h.dim.set i hl⟩
theorem Lr.swap {B:Nat} {w:World} {g cap N n i j gi ci gj cj:Nat} {ad:List (Nat×Nat)} {ls:List Ln} (h:Lr B w g cap N n ad ls) (hn:0<n) (hi:i<N) (hj:j<N) (hai:ad[i]? = some (gi,ci)) (haj:ad[j]? = some (gj,cj)) :
  Lr B ((w.setCell ⟨g,i,none⟩ (slv gj n cj)).setCell ⟨g,j,none⟩ (slv gi n ci)) g cap N n (sw2 ad (0,0) i j) (swp ls i j)
   ∧ w.grownBy ((w.setCell ⟨g,i,none⟩ (slv gj n cj)).setCell ⟨g,j,none⟩ (slv gi n ci)) (some g):=by
 have hi':i<(rowsL ls).length:=by rw [rowsL_length,h.len]; exact hi
 have hj':j<(rowsL ls).length:=by rw [rowsL_length,h.len]; exact hj
 obtain ⟨h1,h2,h3⟩:=h.grl.swapped h.rect hn hi' hj' hai haj
 rw [← rowsL_swp,rowsL_length,h.len] at h1
 refine ⟨⟨h1,by rw [swp_length]; exact h.len,?_⟩,h2⟩
 unfold swp
 exact (h.dim.set i (h.dim.getD (by rw [h.len]; exact hj))).set j (h.dim.getD (by rw [h.len]; exact hi))
theorem less_lines {w0 w:World} {g cap N n i t E gx cx gt ct:Nat} {q:Int} {ad:List (Nat×Nat)} {ls:List Ln} (h:Lr w0.heap.size w g cap N n ad ls) (hn:0<n) (hn2:n≤1000000) (hi:i<N) (ht:t<N) (hne:i≠t)
  (hai:ad[i]? = some (gx,cx)) (hat:ad[t]? = some (gt,ct)) (hA:All (fun z=>z.natAbs<2^E) (ls.getD i default)) (hB:All (fun z=>z.natAbs<2^E) (ls.getD t default)) (hq:q.natAbs<2^E) (hE:2*E+2<LIM) (hL:Laid w0) (hE0:Ext w0 w) :
  Calls Tryz.prog 246 #[slv gx n cx,I q,slv gt n ct] w fun e w' =>
   e = .returned (.tuple #[])∧Lr w0.heap.size w' g cap N n ad (ls.set i (lsub q (ls.getD i default) (ls.getD t default)))∧Ext w0 w'∧w.grownBy w' (some gx):=by
 have li:=h.dim.getD (i:=i) (by rw [h.len]; exact hi)
 have lt:=h.dim.getD (i:=t) (by rw [h.len]; exact ht)
 obtain ⟨gx',cx',a1,a2,a3,a4,a5⟩:=h.grl.at h.rect hn (i:=i) (by rw [rowsL_length,h.len]; exact hi)
 obtain ⟨gt',ct',b1,b2,b3,b4,b5⟩:=h.grl.at h.rect hn (i:=t) (by rw [rowsL_length,h.len]; exact ht)
 rw [hai] at a1
 rw [hat] at b1
 injection a1 with a1
 injection b1 with b1
 injection a1 with e1 e2
 injection b1 with e3 e4
 subst e1 e2 e3 e4
 rw [rowsL_getD] at a3 b3
 have hk:=lless_any (w0:=w0) (w:=w) (ga:=gx) (ca:=cx) (k:=q) (cb:=ct) a3 b3.sl (Ne.symm (h.ne hn hi ht hne hai hat)) (by rw [lt.1,li.1]) (by rw [li.1]; exact hn2) (less_big hA.1 hB.1 hq hE) hL hE0
 rw [li.1] at hk
 refine hk.mono ?_
 rintro e w' ⟨rfl,hO,hG⟩
 exact ⟨rfl,h.wrote hn hi hai (l:=lsub q (ls.getD i default) (ls.getD t default)) ⟨by show (subK q _ _).length=n; rw [subK_length]; exact li.1,by show (subK q _ _).length=0; rw [subK_length]; exact li.2⟩ hO hG,ext_trans_grown hE0 hG a3.lt.1,hG⟩
theorem neg_lines {w0 w:World} {g cap N n i E gx cx:Nat} {ad:List (Nat×Nat)} {ls:List Ln} (h:Lr w0.heap.size w g cap N n ad ls) (hn:0<n) (hn2:n≤1000000) (hi:i<N)
  (hai:ad[i]? = some (gx,cx)) (hA:All (fun z=>z.natAbs<2^E) (ls.getD i default)) (hE:2*E+2<LIM) (hE0:Ext w0 w) :
  Calls Tryz.prog 247 #[slv gx n cx] w fun e w' =>
   e = .returned (.tuple #[])∧Lr w0.heap.size w' g cap N n ad (ls.set i (lneg (ls.getD i default)))∧Ext w0 w'∧w.grownBy w' (some gx):=by
 have li:=h.dim.getD (i:=i) (by rw [h.len]; exact hi)
 obtain ⟨gx',cx',a1,a2,a3,a4,a5⟩:=h.grl.at h.rect hn (i:=i) (by rw [rowsL_length,h.len]; exact hi)
 rw [hai] at a1
 injection a1 with a1
 injection a1 with e1 e2
 subst e1 e2
 rw [rowsL_getD] at a3
 refine (lneg_row (B:=w0.heap.size) (w:=w) a3 li.1 hn2 (fun z hz=>by have:=nd_lt2 (hA.1 z hz); omega)).mono ?_
 rintro e w' ⟨rfl,hO,hG⟩
 exact ⟨rfl,h.wrote hn hi hai (l:=lneg (ls.getD i default)) ⟨by show (List.map _ _).length=n; rw [List.length_map]; exact li.1,by show (List.map _ _).length=0; rw [List.length_map]; exact li.2⟩ hO hG,ext_trans_grown hE0 hG a3.lt.1,hG⟩
theorem Lr.el {B:Nat} {w:World} {g cap N n i c:Nat} {ad:List (Nat×Nat)} {ls:List Ln} (h:Lr B w g cap N n ad ls) (hi:i<N) (hc:c<n) :
  ∃ gx cx,ad[i]? = some (gx,cx)∧w.cell? ⟨g,i,none⟩=some (slv gx n cx)∧w.cell? ⟨gx,c,none⟩=some (I (en ls i c))∧OwnV 79 B w gx cx (ss (ls.getD i default).1)∧gx≠g:=by
 obtain ⟨gx,cx,h1,h2,h3,h4,h5⟩:=h.ln (d:=i) (i:=0) (by omega) hc
 exact ⟨gx,cx,h1,h2,h3,h4,h5⟩
theorem Gr.el {B:Nat} {w:World} {g cap N n i c:Nat} {ad:List (Nat×Nat)} {ls:List Ln} (h:Gr B w g cap N n ad ls) (hi:i<N) (hc:c<n) :
  ∃ gx cx,ad[i]? = some (gx,cx)∧w.cell? ⟨g,i,none⟩=some (slv gx n cx)∧w.cell? ⟨gx,c,none⟩=some (I (en ls i c))∧OwnV 79 B w gx cx (ss (ls.getD i default).1)∧gx≠g:=by
 obtain ⟨gx,cx,h1,h2,h3,h4,h5⟩:=h.ln (d:=i) (i:=0) (by omega) hc
 exact ⟨gx,cx,h1,h2,h3,h4,h5⟩
set_option maxHeartbeats 1000000 in
theorem finish_any {w0 w:World} {g cap N n d c E:Nat} {ad:List (Nat×Nat)} {ls:List Ln} (hG:Gr w0.heap.size w g cap N n ad ls) (hdN:d<N) (hcn:c<n) (hn2:n≤1000000) (hN:N≤1000000) (hA:AllL E ls) (hz:en ls d c≠0) (hEL:2*E+2<LIM) (hL:Laid w0) (hE0:Ext w0 w) :
  Calls Tryz.prog 286 #[slv g N cap,.int .i64 d,.int .i64 c] w fun e w'=>e = .returned (.tuple #[])∧Gr w0.heap.size w' g cap N n ad (abvTo c d d (posAt c d ls))∧Ext w0 w':=by
 have HL:=Lib.hid hL
 have HEL:=Lib.hid hEL
 have HA:=Lib.hid hA
 have HZ:=Lib.hid hz
 obtain ⟨gx,cx,ead,c1,cz,o1,hgx⟩:=hG.el hdN hcn
 obtain ⟨z,hzz⟩ : ∃ z,z=en ls d c:=⟨_,rfl⟩
 rw [← hzz] at cz
 have Hz:=Lib.hid hzz
 have hz0:z≠0:=by rw [hzz]; exact hz
 have Ead:=Lib.hid ead
 have HG:=Lib.hid hG
 have hdN':(d:Int)<(N:Int):=by omega
 have hcn':(c:Int)<(n:Int):=by omega
 have HS:=Lib.hid (Sign_any z)
 have hll:=hG.len
 have Hll:=Lib.hid hll
 have HT:=Lib.hid (fun W (hW:Ext w W)=>turn_lines (w0:=w0) (w:=W) (i:=d) (hG.ext hW) (by omega) hn2 hdN ead (hA d (by omega)) hEL (hE0.trans hW))
 obtain ⟨ls3,hls3⟩ : ∃ ls3,ls3=posAt c d ls:=⟨_,rfl⟩
 rw [← hls3]
 have Hls3:=Lib.hid hls3
 clear hL hEL hA hz hzz o1 ead hG hll hgx hls3
 go_enter Tryz.func286,Tryz.ntmps286
 rcases Int.lt_or_gt_of_ne hz0 with hz1 | hz1
 focus
  have hs1:z.sign = -1:=Int.sign_eq_neg_one_of_neg hz1
  have hP:=Lib.hid (show ls.set d (lneg (ls.getD d default))=posAt c d ls by unfold posAt; rw [if_pos (by rw [← Hz.out]; exact hz1)])
  rw [hs1] at HS
  clear hs1 hz1 hz0
  go_wp2_with fail
  refine (HS.out _).mono ?_
  rintro e W3 ⟨rfl,hE3⟩
  replace c1:=hE3.cell c1
  go_wp2_with fail
  refine (HT.out _ hE3).mono ?_
  rintro e W4 ⟨rfl,hG4,hE4,hC4⟩
  rw [hP.out, ← Hls3.out] at hG4
  clear hC4 hE3 HT HS c1 cz
  go_wp2_with fail
 rotate_left
 focus
  have hs1:z.sign=1:=Int.sign_eq_one_of_pos hz1
  have hP:=Lib.hid (show ls=posAt c d ls by unfold posAt; rw [if_neg (by rw [← Hz.out]; omega)])
  rw [hs1] at HS
  clear hs1 hz1 hz0
  go_wp2_with fail
  refine (HS.out _).mono ?_
  rintro e W4 ⟨rfl,hE3⟩
  have hG4:=HG.out.ext hE3
  rw [hP.out, ← Hls3.out] at hG4
  have hE4:=hE0.trans hE3
  clear hE3 HT HS c1 cz
  go_wp2_with fail
 all_goals
  have HA3:=Lib.hid (show AllL E ls3 by rw [Hls3.out]; exact HA.out.pos (c:=c) (d:=d) (by rw [Hll.out]; exact hdN))
  have HN3:=Lib.hid (show ls3.length=N by rw [Hls3.out,posAt_length]; exact Hll.out)
  have HZ3:=Lib.hid (show en ls3 d c≠0 by
   rw [Hls3.out,en_posAt (by rw [Hll.out]; exact hdN)]
   have:en ls d c≠0:=HZ.out
   split <;> omega)
  have hR : ∀ j,j≤d → ∀ t,t<N→t=d∨j≤t→All (fun z=>z.natAbs<2^E) ((abvTo c d j ls3).getD t default):=fun j hj t ht ht2=>by
   rw [abvTo_getD c d j (by rw [HN3.out]; exact ht),if_neg (by omega)]
   exact HA3.out t (by rw [HN3.out]; exact ht)
  have HR:=Lib.hid hR
  have hgW:=hG4.base
  clear hR HG
  go_loopw [25] (fun idx wr => ∃ j:Nat,j≤d∧idx = .int .i64 j∧Gr w0.heap.size wr g cap N n ad (abvTo c d j ls3)∧Ext w0 wr) (fun idx _=>d-(intOf idx).toNat)
  case atStart=>exact ⟨0,by omega,by go_num,by rw [abvTo_zero]; exact hG4,hE4⟩
  case round =>
   obtain ⟨j,hj,rfl,hG5,hE5⟩:=hrel
   generalize wr=X at *
   by_cases hjl:j<d
   ·have hji:(j:Int)<(d:Int):=by omega
    have hjN:(j:Int)<(N:Int):=by omega
    obtain ⟨gx',cx',ead',c1',cz',o1',hgx'⟩:=hG5.el (i:=j) (by omega) hcn
    obtain ⟨gt,ct,eadt,c1t,czt,ot,hgt⟩:=hG5.el (i:=d) (by omega) hcn
    obtain ⟨z',hz'⟩ : ∃ z',z'=en (abvTo c d j ls3) j c:=⟨_,rfl⟩
    obtain ⟨y',hy'⟩ : ∃ y',y'=en (abvTo c d j ls3) d c:=⟨_,rfl⟩
    rw [← hz'] at cz'
    rw [← hy'] at czt
    have hy0:y'≠0:=by
     rw [hy']
     have:=HZ3.out
     unfold en at this ⊢
     rw [abvTo_getD c d j (by rw [HN3.out]; exact hdN),if_neg (by omega)]; exact this
    have hA1:=HR.out j hj j (by omega) (by omega)
    have hA0:=HR.out j hj d (by omega) (by omega)
    have hzE:z'.natAbs<2^E:=by rw [hz']; exact hA1.col (Q:=fun z=>z.natAbs<2^E) (Nat.pow_pos (by omega)) c
    have hyE:y'.natAbs<2^E:=by rw [hy']; exact hA0.col (Q:=fun z=>z.natAbs<2^E) (Nat.pow_pos (by omega)) c
    have hqE:(z'.fdiv y').natAbs<2^E:=Nat.lt_of_le_of_lt (fdiv_abs z' hy0) hzE
    have hstep:=abvTo_step c d j ls3 hjl (by rw [HN3.out]; exact hdN)
    have hz2:col c ((abvTo c d j ls3).getD j default)=z':=by rw [hz']; rfl
    have hy2:col c ((abvTo c d j ls3).getD d default)=y':=by rw [hy']; rfl
    rw [hz2,hy2] at hstep
    have Hzl:Hid (nd z'<LIM):=by have:=nd_lt2 hzE; have:=HEL.out; exact Lib.hid (by omega)
    have Hyl:Hid (nd y'<LIM):=by have:=nd_lt2 hyE; have:=HEL.out; exact Lib.hid (by omega)
    have Hl:=Lib.hid (fun W (hW:Ext X W)=>take_lines (w0:=w0) (w:=W) (i:=j) (t:=d) (hG5.ext hW) (by omega) hn2 (by omega) hdN (by omega) ead' eadt hA1 hA0 hqE HEL.out HL.out (hE5.trans hW))
    have Hstep:=Lib.hid hstep
    have Hy0:=Lib.hid hy0
    have k1:=cell_regrown cz'
    have k2:=cell_regrown czt
    have k3:=cell_regrown c1'
    have k4:=cell_regrown c1t
    have bD:=Lib.hid (quietC (w:=X) (fun W h=>DivMod_any (a:=z') (b:=y') (w:=W) Hzl.out Hyl.out Hy0.out (HL.out.ext (hE5.trans h))))
    clear hy' hz' ead' eadt o1' ot hA1 hA0 hzE hyE hqE hstep hy0 hz2 hy2 hgx' hgt hG4 hG5
    go_wp2_with fail
    refine wp_region_quiet_below (by kernel_rfl) (by kernel_rfl) ?_
    repeat (quiet_step (exact bD.out _ _))
    refine wpQuiet_nil ?_
    intro _ hw'
    obtain ⟨⟨dq,osq⟩,hw''⟩:=hw'
    subst hw''
    have hE6:=ext_regrown X dq osq
    have m3:=k3 dq osq
    have m4:=k4 dq osq
    clear bD k1 k2 k3 k4
    generalize hW6:grow (redrawn _ _) _=W6 at *
    have n3:=cell_regrown m3
    have n4:=cell_regrown m4
    clear hW6 m3 m4
    go_wp2_with fail
    refine wp_region_quiet_tail 9 (by kernel_rfl) (by kernel_rfl) ?_
    simp only [List.take_succ_cons,List.take_zero,List.drop_succ_cons,List.drop_zero]
    repeat (quiet_step (fail))
    refine wpQuiet_nil ?_
    intro _ hw'
    obtain ⟨⟨dq,osq⟩,hw''⟩:=hw'
    subst hw''
    have hE7:=hE6.trans (ext_regrown _ dq osq)
    clear n3 n4
    generalize hW7:grow (redrawn _ _) _=W7 at *
    clear hW7
    go_wp2_with fail
    refine (Hl.out _ hE7).mono ?_
    rintro e W8 ⟨rfl,hG8,hE8,_⟩
    rw [← Hstep.out] at hG8
    go_wp2_with fail
    go_roundw
    case rel=>exact ⟨j+1,by omega,by go_num,hG8,hE8⟩
    case measure=>simp [intOf] <;> omega
   ·have hje:j=d:=by omega
    subst hje
    go_wp2_with fail
    go_end0
    exact ⟨rfl,hG5,hE5⟩
end Go.Proofs.YtjnpakablgommaaGreatDoor
