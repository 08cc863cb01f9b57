/- Part 28 of the proof of the claim: contracts of the functions that it reaches, and plain laws; no condition. -/
import Derived.Test.YtjnpakablgommaaGreatDoorV27
set_option maxRecDepth 100000
namespace Go.Proofs.YtjnpakablgommaaGreatDoor
open Go.RowKit Go.Sort Hnf
structure TmOK (P:List Int) (C M:Mx):Prop where
 pr : ∀ x∈P,SmP x
 inc : ∀ i (h:i+1<P.length),P[i]'(by omega)<P[i+1]
 p0:0<P.length
 p4:P.length≤4
 kM:KerL P.length (latM C) M
 kC:KerL P.length (latM M) C
 sC:SmK C
 sM:SmK M
 bC : ∀ r∈C,∀ z∈r,z.natAbs≤1000000
 bM : ∀ r∈M,∀ z∈r,z.natAbs≤1000000
 uC : ∃ qs d w,KSet P.length (latM C) qs C 1000000 d w
 uM : ∃ qs d w,KSet P.length (latM M) qs M 1000000 d w
theorem SmK.of_abs {K:Mx} (h : ∀ r∈K,∀ z∈r,z.natAbs≤1000000):SmK K:=fun r hr z hz=>by have:=h r hr z hz; omega
theorem KerL.uniq {n:Nat} {L:List V} {K K':Mx} (h:KerL n L K) (h':KerL n L K'):K=K':=h.unique h' fun _=>Iff.rfl
theorem tm_of {P:List Int} {R F K S:Mx} (hp:(∀ x∈P,SmP x)∧0<P.length∧P.length≤4 ∧ ∀ i (h:i+1<P.length),P[i]'(by omega)<P[i+1]) (hR:Rect P.length R) (hm : ∀ r∈R,∀ z∈r,-9≤z∧z≤9) (hF:HnfOf P.length R F) (hK:KerL P.length (latM F) K) (hS:KerL P.length (latM K) S) :
  TmOK P S K∧TmOK P K S:=by
 obtain ⟨h1,h2,h3,h4⟩:=hp
 obtain ⟨k1,k2,k3,k4,k5,k6⟩:=two_kernels h3 hR (fun r hr z hz=>by have:=hm r hr z hz; omega) hF hK hS
 have hex:KerL P.length (latM S) K:=by
  obtain ⟨psF,hFi⟩:=hF.1
  refine ⟨hK.1,fun y=>⟨fun h=>⟨fun v hv => ?_,((hK.2 y).1 h).2⟩,fun h=>(hK.2 y).2 ⟨fun v hv => ?_,h.2⟩⟩⟩
  ·rw [dot_comm]
   exact span_dot (fun a ha=>hS.dot ha (.mem hv)) h
  ·exact span_dot h.1 ((hS.2 v).2 ⟨fun a ha=>by rw [dot_comm]; exact hK.dot hv (.mem ha),rect_far hFi.rect v hv⟩)
 exact ⟨⟨h1,h4,h2,h3,hex,hS,.of_abs k2,.of_abs k1,k2,k1,k6,k5⟩,⟨h1,h4,h2,h3,hS,hex,.of_abs k1,.of_abs k2,k1,k2,k5,k6⟩⟩
theorem own3 (w:World) (T:TypeId) (a b c:Value):OwnV T w.heap.size (w.alloc (.cells #[a,b,c] T)) w.heap.size 3 [a,b,c] :=
 OwnV.of (Nat.le_refl _) Array.getElem?_push_size (by simp) (by unfold maxLen; omega) rfl rfl
theorem set3 {T:TypeId} {g B:Nat} {w0 W:World} {a b c:Value} (hE:Ext w0 W) (hg:w0.heap.size≤g) (h:OwnV T B W g 3 [a,b,c]) (x y z:Value) :
  OwnV T B (((W.setCell ⟨g,0,none⟩ x).setCell ⟨g,1,none⟩ y).setCell ⟨g,2,none⟩ z) g 3 [x,y,z]∧Ext w0 (((W.setCell ⟨g,0,none⟩ x).setCell ⟨g,1,none⟩ y).setCell ⟨g,2,none⟩ z)∧W.grownBy (((W.setCell ⟨g,0,none⟩ x).setCell ⟨g,1,none⟩ y).setCell ⟨g,2,none⟩ z) (some g):=by
 obtain ⟨h1,g1⟩:=h.set 0 x
 obtain ⟨h2,g2⟩:=h1.set 1 y
 obtain ⟨h3,g3⟩:=h2.set 2 z
 have gg:=grown_trans (grown_trans g1 g2) g3
 exact ⟨h3,ext_trans_grown hE gg hg,gg⟩
end Go.Proofs.YtjnpakablgommaaGreatDoor
namespace Go.Proofs.YtjnpakablgommaaGreatDoor
open Go.RowKit Go.Sort
open Hnf (V Span)
theorem rows_indep {n:Nat} {ps:List Nat} {F:Mx} (h:IsH n ps F) {y:V} (hz : ∀ j,cmb F y j=0) : ∀ m i,i≤m→i<F.length→y i=0:=by
 intro m
 induction m with
 | zero =>
  intro i hi hl
  obtain rfl:i=0:=by omega
  have h1:=hz (ps.getD 0 0)
  unfold cmb at h1
  rw [sumZ_one (k:=0) hl (fun k hk h0=>by rw [h.left k hk _ (h.inc 0 k (by omega) hk)]; simp)] at h1
  have h2:=h.pos 0 hl
  rcases Int.mul_eq_zero.1 h1 with h3 | h3
  ·exact h3
  ·omega
 | succ m ih =>
  intro i hi hl
  rcases Nat.lt_or_ge i (m+1) with h0 | h0
  ·exact ih i (by omega) hl
  have h1:=hz (ps.getD i 0)
  unfold cmb at h1
  rw [sumZ_one (k:=i) hl (fun k hk h0=>by
   rcases Nat.lt_or_ge k i with h4 | h4
   ·rw [ih k (by omega) hk]; simp
   ·rw [h.left k hk _ (h.inc i k (by omega) hk)]; simp)] at h1
  have h2:=h.pos i hl
  rcases Int.mul_eq_zero.1 h1 with h3 | h3
  ·exact h3
  ·omega
theorem sumZ_two {f:Nat→Int} {a b:Nat} {n:Nat} (ha:a<n) (hb:b<n) (hab:a≠b) (h : ∀ i,i<n→i≠a→i≠b→f i=0):sumZ f n=f a+f b:=by
 have e:sumZ f n=sumZ (fun i=>(if i=a then f a else 0)-(if i=b then-f b else 0)) n:=sumZ_congr fun i hi=>by
  by_cases h1:i=a
  ·subst h1; rw [if_pos rfl,if_neg hab]; simp
  ·by_cases h2:i=b
   ·subst h2; rw [if_neg h1,if_pos rfl]; simp
   ·rw [if_neg h1,if_neg h2,h i hi h1 h2]; simp
 rw [e,sumZ_sub,sumZ_one (k:=a) ha (fun i _ hi=>if_neg hi),sumZ_one (k:=b) hb (fun i _ hi=>if_neg hi)]
 simp
def upV (F:Mx) (c:Nat):V:=fun k=>if k=c then 1 else if k<c then-eM F k c else 0
theorem up_dot {r:Nat} {qs:List Nat} {F:Mx} {c:Nat} (hF:IsH r qs F) (hc:c<r) (hl:c≤F.length) (h1 : ∀ i,i<c→qs.getD i 0=i∧eM F i i=1) :
  ∃ d:Int,0≤d∧(d≠0→c<F.length∧qs.getD c 0=c∧eM F c c=d) ∧ ∀ i,i<F.length → ∃ t,dotV r (vr (F.getD i [])) (upV F c)=t*d:=by
 have hlow : ∀ i,i<c→dotV r (vr (F.getD i [])) (upV F c)=0:=fun i hi=>by
  have hz : ∀ k,k<r→k≠i→k≠c→vr (F.getD i []) k*upV F c k=0:=fun k hk h2 h3=>by
   by_cases h4:k<c
   ·have h5:eM F i k=0:=by
     rcases Nat.lt_or_ge k i with h6 | h6
     ·exact hF.left i (by omega) k (by rw [(h1 i hi).1]; exact h6)
     ·have h7:=hF.red i k (by omega) (by omega)
      rw [(h1 k h4).1,(h1 k h4).2] at h7
      omega
    have h5':vr (F.getD i []) k=0:=h5
    rw [h5']; simp
   ·unfold upV; rw [if_neg h3,if_neg h4]; simp
  unfold dotV
  rw [sumZ_two (a:=i) (b:=c) (by omega) hc (by omega) hz]
  have e1:vr (F.getD i []) i=1:=(h1 i hi).2
  have e2:vr (F.getD i []) c=eM F i c:=rfl
  rw [e1,e2]
  unfold upV
  rw [if_pos rfl,if_neg (by omega),if_pos hi]
  omega
 have hhigh : ∀ i,i<F.length→(∀ k,k≤c→eM F i k=0)→dotV r (vr (F.getD i [])) (upV F c)=0:=fun i hi hz=>sumZ_zero fun k hk=>by
  by_cases h4:k≤c
  ·have h5:vr (F.getD i []) k=0:=hz k h4
   rw [h5]; simp
  ·unfold upV; rw [if_neg (by omega),if_neg (by omega)]; simp
 have hpge : ∀ i,i<F.length→c≤i→c≤qs.getD i 0:=fun i hi hci=>by
  rcases Nat.eq_zero_or_pos c with h | h
  ·omega
  ·have:=hF.inc (c-1) i (by omega) hi
   rw [(h1 (c-1) (by omega)).1] at this
   omega
 by_cases hcp:c<F.length∧qs.getD c 0=c
 ·have hp:=hF.pos c hcp.1
  rw [hcp.2] at hp
  refine ⟨eM F c c,by omega,fun _=>⟨hcp.1,hcp.2,rfl⟩,fun i hi => ?_⟩
  rcases Nat.lt_trichotomy i c with h | rfl | h
  ·exact ⟨0,by rw [hlow i h]; simp⟩
  ·refine ⟨1,?_⟩
   unfold dotV
   rw [sumZ_one (k:=i) hc (fun k hk h2=>by
    rcases Nat.lt_or_ge k i with h4 | h4
    ·have h5:vr (F.getD i []) k=0:=hF.left i hi k (by rw [hcp.2]; exact h4)
     rw [h5]; simp
    ·unfold upV; rw [if_neg h2,if_neg (by omega)]; simp)]
   unfold upV
   rw [if_pos rfl]
   show eM F i i*1=1*eM F i i
   omega
  ·exact ⟨0,by
    rw [hhigh i hi (fun k hk=>hF.left i hi k (by have:=hF.inc c i h hi; rw [hcp.2] at this; omega))]; simp⟩
 ·refine ⟨0,Int.le_refl _,fun h=>absurd rfl h,fun i hi=>⟨0,?_⟩⟩
  rcases Nat.lt_or_ge i c with h | h
  ·rw [hlow i h]; simp
  ·rw [hhigh i hi (fun k hk=>hF.left i hi k (by
    have h2:=hpge i hi h
    rcases Nat.lt_or_ge c i with h3 | h3
    ·have h4:=hF.inc c i h3 hi
     have h5:=hpge c (by omega) (Nat.le_refl _)
     omega
    ·have:i=c:=by omega
     subst this
     have:qs.getD i 0≠i:=fun e=>hcp ⟨hi,e⟩
     omega))]
   simp
theorem onto_col {n:Nat} {C M F:Mx} {ps qs:List Nat} (hM:KerL n (latM C) M) (hI:IsH n ps M) (hF:IsH M.length qs F) (h2 : ∀ v∈latM (trM n M),Span (latM F) v) :
  ∀ c,c≤M.length→c≤F.length ∧ ∀ i,i<c→qs.getD i 0=i∧eM F i i=1
 | 0,_=>⟨Nat.zero_le _,fun i h=>by omega⟩
 | c+1,hc=>by
  obtain ⟨hl,h1⟩:=onto_col hM hI hF h2 c (by omega)
  obtain ⟨d,hd0,hd,ht⟩:=up_dot hF (by omega) hl h1
  have hsp : ∀ v,Span (latM F) v → ∃ t,dotV M.length v (upV F c)=t*d:=fun v hv=>by
   induction hv with
   | zero=>exact ⟨0,by rw [dot_zero]; simp⟩
   | @step v r q _ hr ih =>
    obtain ⟨t,e⟩:=ih
    obtain ⟨l,hlm,rfl⟩:=List.mem_map.1 hr
    obtain ⟨i,hi,rfl⟩:=List.getElem_of_mem hlm
    obtain ⟨t2,e2⟩:=ht i hi
    rw [getD_get hi] at e2
    exact ⟨t-q*t2,by rw [dot_sub,e,e2,Int.sub_mul,Int.mul_assoc]⟩
  have hcol : ∀ j,∃ t,cmb M (upV F c) j=t*d∧(n≤j→t=0):=fun j=>by
   by_cases hj:j<n
   ·obtain ⟨t,e⟩:=hsp _ (h2 (vr ((trM n M)[j]'(by simpa using hj))) (List.mem_map_of_mem (List.getElem_mem _)))
    refine ⟨t,?_,fun h=>by omega⟩
    rw [← e]
    refine sumZ_congr fun k hk => ?_
    have e3:=trM_en M hj hk
    have e4:vr ((trM n M)[j]'(by simpa using hj)) k=eM (trM n M) j k:=by
     unfold eM
     rw [getD_get (show j<(trM n M).length by simpa using hj) []]; rfl
    rw [e4,e3]
    have e5:eM M k j=vr M[k] j:=by unfold eM; rw [getD_get hk []]; rfl
    rw [e5]
    exact Int.mul_comm _ _
   ·refine ⟨0,?_,fun _=>rfl⟩
    rw [Int.zero_mul]
    refine sumZ_zero fun k hk => ?_
    have:eM M k j=0:=by
     unfold eM; rw [getD_get hk]
     exact vr_far (by rw [hI.rect _ (List.getElem_mem hk)]; omega)
    rw [this]; simp
  obtain ⟨t,ht2⟩:=Classical.skolem.1 hcol
  have huc:upV F c c=1:=by unfold upV; rw [if_pos rfl]
  have hdne:d≠0:=fun h0=>by
   have:=rows_indep hI (y:=upV F c) (fun j=>by rw [(ht2 j).1,h0]; simp) c c (Nat.le_refl _) (by omega)
   rw [huc] at this
   omega
  have htM:Span (latM M) t:=by
   refine (hM.2 t).2 ⟨fun v hv => ?_,fun i hi=>(ht2 i).2 hi⟩
   have h3:=((hM.2 _).1 (span_cmb.2 ⟨upV F c,rfl⟩)).1 v hv
   have h4:dotV n v (cmb M (upV F c))=d*dotV n v t:=by
    unfold dotV
    rw [← sumZ_mul]
    exact sumZ_congr fun i _=>by rw [(ht2 i).1]; grind
   rw [h4] at h3
   rcases Int.mul_eq_zero.1 h3 with h | h
   ·exact absurd h hdne
   ·exact h
  obtain ⟨y,hy⟩:=span_cmb.1 htM
  have h5:=rows_indep hI (y:=Hnf.sub (upV F c) d y) (fun j=>by
   rw [cmb_sub,(ht2 j).1, ← hy]
   grind) c c (Nat.le_refl _) (by omega)
  simp only [Hnf.sub,huc] at h5
  obtain ⟨k1,k2,k3⟩:=hd hdne
  have h6:d*y c=1:=by omega
  have h7:d=1:=by
   exact Int.eq_one_of_mul_eq_one_right hd0 h6
  exact ⟨by omega,fun i hi=>by
   rcases Nat.lt_or_ge i c with h | h
   ·exact h1 i h
   ·obtain rfl:i=c:=by omega
    exact ⟨k2,by rw [k3,h7]⟩⟩
theorem onto {n:Nat} {C M H:Mx} {b:List Int} (hM:KerL n (latM C) M) (hH:HnfOf (M.length+(trM n M).length) (wideM (trM n M)) H) (hb:b.length=M.length):Span (latM (trM n M)) (vr b):=by
 obtain ⟨ps,hI⟩:=hM.1
 obtain ⟨qs,hF,a1,a2⟩:=left_form (trM_rect n M) hH
 generalize (upr M.length H).map (List.take M.length)=F at *
 obtain ⟨h1,h2⟩:=onto_col hM hI hF a2 M.length (Nat.le_refl _)
 have hlen:F.length≤M.length:=isH_len hF
 refine Span.trans a1 (span_cmb.2 ⟨vr b,?_⟩)
 funext j
 by_cases hj:j<M.length
 ·unfold cmb
  rw [sumZ_one (k:=j) (by omega) (fun k hk hkj=>by
   have:eM F k j=0:=by
    rcases Nat.lt_or_ge j k with h | h
    ·exact hF.left k hk j (by rw [(h2 k (by omega)).1]; exact h)
    ·have h3:=hF.red k j (by omega) (by omega)
     rw [(h2 j hj).1,(h2 j hj).2] at h3
     omega
   rw [this]; simp),(h2 j hj).2,Int.mul_one]
 ·rw [vr_far (by omega)]
  symm
  refine sumZ_zero fun k hk => ?_
  have:eM F k j=0:=by
   unfold eM; rw [getD_get hk]
   exact vr_far (by rw [hF.rect _ (List.getElem_mem hk)]; omega)
  rw [this]; simp
theorem redX_same {n:Nat} {ps:List Nat} {F:Mx} (h:IsH n ps F) {x y:List Int} (hx:x.length=n) (hy:y.length=n) (hs:Span (latM F) (Hnf.sub (vr x) 1 (vr y))):redX F x=redX F y:=by
 have h1:=redX_span F x h.rect hx
 have h2:=redX_span F y h.rect hy
 have hr:Span (latM F) (Hnf.sub (vr (redX F x)) 1 (vr (redX F y))):=by
  refine span_of_eq (((hs.sub 1 h1).sub (-1) h2)) fun j => ?_
  simp only [Hnf.sub]; omega
 have hz : ∀ j,Hnf.sub (vr (redX F x)) 1 (vr (redX F y)) j=0:=by
  rcases Hnf.first (Hnf.sub (vr (redX F x)) 1 (vr (redX F y))) with h0 | ⟨j,hj,hz⟩
  ·exact h0
  ·exfalso
   rw [← wps_rows h.len] at hr
   obtain ⟨g,hg,e,hd⟩:=h.ech.lead hr hj hz
   obtain ⟨i,hi,rfl⟩:=wps_mem h.len hg
   simp only at e hd
   subst e
   have r1:=redX_range h hx i hi
   have r2:=redX_range h hy i hi
   obtain ⟨c,hc⟩:=hd
   have hc':(redX F x).getD (ps.getD i 0) 0-1*(redX F y).getD (ps.getD i 0) 0=eM F i (ps.getD i 0)*c:=hc
   have hj':(redX F x).getD (ps.getD i 0) 0-1*(redX F y).getD (ps.getD i 0) 0≠0:=hj
   have hlt:(eM F i (ps.getD i 0)*c).natAbs<(eM F i (ps.getD i 0)).natAbs:=by rw [← hc']; omega
   rw [Int.natAbs_mul] at hlt
   have hc0:c.natAbs=0:=by
    rcases Nat.eq_zero_or_pos c.natAbs with h | h
    ·exact h
    ·have:=Nat.mul_le_mul_left (eM F i (ps.getD i 0)).natAbs h; omega
   have hcz:c=0:=by omega
   rw [hcz,Int.mul_zero] at hc'
   exact hj' hc'
 refine List.ext_getElem (by simp [hx,hy]) fun j j1 j2 => ?_
 have h3:=hz j
 simp only [Hnf.sub] at h3
 have e1:vr (redX F x) j=(redX F x)[j]:=getD_get j1 0
 have e2:vr (redX F y) j=(redX F y)[j]:=getD_get j2 0
 rw [e1,e2] at h3
 omega
def tmpE (x v:List Int):Int:=sumZ (fun i=>x.getD i 0*v.getD i 0) x.length
def tmpL (M:Mx) (x:List Int):List Int:=M.map (tmpE x)
@[simp] theorem tmpL_length (M:Mx) (x:List Int):(tmpL M x).length=M.length:=by simp [tmpL]
theorem tmpE_dot {n:Nat} {x v:List Int} (hx:x.length=n):tmpE x v=dotV n (vr x) (vr v):=by unfold tmpE; rw [hx]; rfl
theorem tmpL_eq {n:Nat} {M:Mx} {x y:List Int} (hx:x.length=n) (hy:y.length=n):tmpL M x=tmpL M y ↔ ∀ v∈latM M,dotV n v (Hnf.sub (vr x) 1 (vr y))=0:=by
 unfold tmpL latM
 rw [List.map_inj_left]
 constructor
 ·intro h v hv
  obtain ⟨l,hl,rfl⟩:=List.mem_map.1 hv
  have:=h l hl
  rw [tmpE_dot hx,tmpE_dot hy] at this
  rw [dot_subr,dot_comm n (vr l) (vr x),this,dot_comm n (vr l) (vr y)]; omega
 ·intro h l hl
  have:=h _ (List.mem_map_of_mem hl)
  rw [dot_subr] at this
  rw [tmpE_dot hx,tmpE_dot hy,dot_comm n (vr x),dot_comm n (vr y)]; omega
theorem TmOK.class_iff {P:List Int} {C M:Mx} (h:TmOK P C M) {x y:List Int} (hx:x.length=P.length) (hy:y.length=P.length):tmpL M x=tmpL M y↔Span (latM C) (Hnf.sub (vr x) 1 (vr y)):=by
 rw [tmpL_eq hx hy,h.kC.2]
 refine ⟨fun h=>⟨h,fun i hi => ?_⟩,fun h=>h.1⟩
 simp only [Hnf.sub]
 rw [vr_far (by omega),vr_far (by omega)]; simp
theorem TmOK.rep {P:List Int} {C M:Mx} (h:TmOK P C M) {x:List Int} (hx:x.length=P.length):tmpL M (redX C x)=tmpL M x:=by
 obtain ⟨qs,hI⟩:=h.kC.1
 have hs:=redX_span C x hI.rect hx
 exact ((h.class_iff hx (by simp [hx])).2 hs).symm
theorem TmOK.same_rep {P:List Int} {C M:Mx} (h:TmOK P C M) {x y:List Int} (hx:x.length=P.length) (hy:y.length=P.length) (he:tmpL M x=tmpL M y):redX C x=redX C y:=by
 obtain ⟨qs,hI⟩:=h.kC.1
 exact redX_same hI hx hy ((h.class_iff hx hy).1 he)
theorem TmOK.rep_rep {P:List Int} {C M:Mx} (h:TmOK P C M) {x:List Int} (hx:x.length=P.length):redX C (redX C x)=redX C x :=
 h.same_rep (by simp [hx]) hx (h.rep hx)
theorem tmp_of_cmb {n:Nat} {M:Mx} {x b:List Int} (hx:x.length=n) (hb:b.length=M.length) (h : ∀ j,j<M.length→cmb (trM n M) (vr x) j=vr b j):tmpL M x=b:=by
 refine List.ext_getElem (by simp [hb]) fun j j1 j2 => ?_
 have hj:j<M.length:=by simpa using j1
 have h1:=h j hj
 rw [cmb_tr M _ hj,dot_comm] at h1
 show (List.map (tmpE x) M)[j]'(by simpa using hj)=b[j]
 rw [List.getElem_map,tmpE_dot hx,h1]
 exact getD_get j2 0
theorem getD_zeros (n j:Nat):(List.replicate n (0:Int)).getD j 0=0:=by
 rw [List.getD_eq_getElem?_getD,List.getElem?_replicate]
 split <;> rfl
theorem redX_zeros {n:Nat} : ∀ (F:Mx),Rect n F→redX F (List.replicate n 0)=List.replicate n 0
 | [],_=>rfl
 | r::F,h=>by
  have hr:r.length=n:=h r (by simp)
  have h0:stepQ r (List.replicate n 0)=0:=by
   unfold stepQ
   rw [getD_zeros]; exact Int.zero_fdiv _
  rw [redX,h0,subK_zero _ _ (by simp [hr])]
  exact redX_zeros F fun s hs=>h s (by simp [hs])
def unitL (r i:Nat):List Int:=(List.replicate r 0).set i 1
@[simp] theorem unitL_length (r i:Nat):(unitL r i).length=r:=by simp [unitL]
theorem unitL_getD {r i:Nat} (hi:i<r) (k:Nat):(unitL r i).getD k 0=if k=i then 1 else 0:=by
 unfold unitL
 rw [List.getD_eq_getElem?_getD,List.getElem?_set]
 by_cases h:k=i
 ·subst h
  simp [hi]
 ·rw [if_neg (fun e=>h e.symm),if_neg h,List.getElem?_replicate]
  split <;> rfl
theorem sumZ_add (f g:Nat→Int) : ∀ n,sumZ (fun i=>f i+g i) n=sumZ f n+sumZ g n
 | 0=>rfl
 | n+1=>by simp only [sumZ]; rw [sumZ_add f g n]; omega
theorem sumZ_swap (f:Nat→Nat→Int) (m:Nat) : ∀ n,sumZ (fun i=>sumZ (fun j=>f i j) m) n=sumZ (fun j=>sumZ (fun i=>f i j) n) m
 | 0=>(sumZ_zero (fun _ _=>rfl)).symm
 | n+1=>by
  rw [sumZ,sumZ_swap f m n, ← sumZ_add]
  exact sumZ_congr fun j _=>rfl
structure SecOK (n:Nat) (C M S:Mx):Prop where
 len:S.length=M.length
 row : ∀ i (h:i<S.length),S[i].length=n∧tmpL M S[i]=unitL M.length i∧redX C S[i]=S[i] ∧ ∀ z∈S[i],-1000000000≤z∧z≤1000000000
structure PreOK (n:Nat) (C M:Mx) (r x:List Int):Prop where
 len:x.length=n
 tmp:tmpL M x=r
 rep:redX C x=x
 sm : ∀ z∈x,-1000000000≤z∧z≤1000000000
theorem pre_zero {P:List Int} {C M:Mx} (h:TmOK P C M) (h0:M.length=0):PreOK P.length C M [] (List.replicate P.length 0):=by
 obtain ⟨qs,hI⟩:=h.kC.1
 exact ⟨by simp,by rw [List.eq_nil_of_length_eq_zero h0]; rfl,redX_zeros C hI.rect,fun z hz=>by have:=(List.mem_replicate.1 hz).2; omega⟩
theorem trM_ncols {n:Nat} {M:Mx} (h0:0<n):ncols (trM n M)=M.length:=by
 unfold ncols
 rw [getD_get (by simpa using h0),trM_get M h0]; simp
theorem pre_of {P:List Int} {C M H:Mx} {r x:List Int} (h:TmOK P C M) (_:HnfOf (M.length+(trM P.length M).length) (wideM (trM P.length M)) H) (hr:r.length=M.length) (hx:x.length=P.length) (hc : ∀ j,j<M.length→cmb (trM P.length M) (vr x) j=vr r j) (hs : ∀ z∈redX C x,-1000000000≤z∧z≤1000000000):PreOK P.length C M r (redX C x) :=
 ⟨by simp [hx],by rw [h.rep hx]; exact tmp_of_cmb hx hr hc,h.rep_rep hx,hs⟩
theorem sumZ_head {f:Nat→Int} {t:Nat} : ∀ {n},t<n→(∀ i,i<n→t<i→f i=0)→sumZ f n=sumZ f t+f t
 | n+1,ht,h=>by
  rcases Nat.lt_or_ge t n with h1 | h1
  ·show sumZ f n+f n=_
   rw [sumZ_head h1 (fun i hi h2=>h i (by omega) h2),h n (by omega) h1]
   omega
  ·obtain rfl:t=n:=by omega
   rfl
theorem coef_sum {y e:Nat→Int} {B p:Nat} : ∀ {t:Nat},(∀ s,s<t→(y s).natAbs≤2^s*B)→(∀ s,s<t→(e s).natAbs≤p)→(sumZ (fun s=>y s*e s) t).natAbs≤(2^t-1)*B*p
 | 0,_,_=>by simp [sumZ]
 | t+1,hy,he=>by
  have h1:=coef_sum (t:=t) (fun s hs=>hy s (by omega)) (fun s hs=>he s (by omega))
  have h2:(y t*e t).natAbs≤2^t*B*p:=by
   rw [Int.natAbs_mul]
   exact Nat.mul_le_mul (hy t (by omega)) (he t (by omega))
  have h3:(2^(t+1)-1)*B*p=(2^t-1)*B*p+2^t*B*p:=by
   rw [← Nat.add_mul, ← Nat.add_mul]
   congr 2
   have:=Nat.one_le_two_pow (n:=t)
   rw [Nat.pow_succ]; omega
  rw [h3]
  show (sumZ (fun s=>y s*e s) t+y t*e t).natAbs≤_
  omega
theorem coef_b {n B:Nat} {ps:List Nat} {F:Mx} (h:IsH n ps F) {y:V} (hb : ∀ j,(cmb F y j).natAbs≤B) : ∀ m t,t≤m→t<F.length→(y t).natAbs≤2^t*B:=by
 intro m
 induction m with
 | zero =>
  intro t ht hl
  obtain rfl:t=0:=by omega
  have h1:=hb (ps.getD 0 0)
  unfold cmb at h1
  rw [sumZ_one (k:=0) hl (fun k hk h0=>by rw [h.left k hk _ (h.inc 0 k (by omega) hk)]; simp),Int.natAbs_mul] at h1
  have h2:=h.pos 0 hl
  have h3:(y 0).natAbs≤(y 0).natAbs*(eM F 0 (ps.getD 0 0)).natAbs:=Nat.le_mul_of_pos_right _ (by omega)
  simp; omega
 | succ m ih =>
  intro t ht hl
  rcases Nat.lt_or_ge t (m+1) with h0 | h0
  ·exact ih t (by omega) hl
  have h1:=hb (ps.getD t 0)
  unfold cmb at h1
  rw [sumZ_head hl (fun k hk h0=>by rw [h.left k hk _ (h.inc t k h0 hk)]; simp)] at h1
  have h2:=h.pos t hl
  obtain ⟨p,hp⟩ : ∃ p:Nat,eM F t (ps.getD t 0)=p:=⟨_,(Int.toNat_of_nonneg (by omega)).symm⟩
  have h3:=coef_sum (t:=t) (y:=y) (e:=fun s=>eM F s (ps.getD t 0)) (B:=B) (p:=p) (fun s hs=>ih s (by omega) (by omega)) (fun s hs=>by
   have:=h.red s t hs hl
   omega)
  rw [hp] at h1 h2
  have h4:(y t*(p:Int)).natAbs≤B+(2^t-1)*B*p:=by
   obtain ⟨S,hS⟩ : ∃ S,S=sumZ (fun s=>y s*eM F s (ps.getD t 0)) t:=⟨_,rfl⟩
   rw [← hS] at h1 h3
   omega
  have h5:B+(2^t-1)*B*p≤2^t*B*p:=by
   have e1:2^t*B*p=(2^t-1)*B*p+B*p:=by
    have:=Nat.one_le_two_pow (n:=t)
    have e:2^t=(2^t-1)+1:=by omega
    rw [show 2^t*B*p=((2^t-1)+1)*B*p by rw [← e],Nat.add_mul,Nat.add_mul,Nat.one_mul]
   have e2:B≤B*p:=Nat.le_mul_of_pos_right _ (by omega)
   omega
  have h6:(y t).natAbs*p≤2^t*B*p:=by
   rw [Int.natAbs_mul] at h4
   simp only [Int.natAbs_natCast] at h4
   omega
  exact Nat.le_of_mul_le_mul_right h6 (by omega)
theorem rep_small {n B:Nat} {C M:Mx} {qs:List Nat} {d:Int} {w:Nat→V} (hC:KSet n (latM C) qs C B d w) (hM:KerL n (latM C) M) (hM4:M.length≤4) (hC4:C.length≤4) {x:List Int} (hx:x.length=n) (hrep:redX C x=x) {i:Nat} (hi:i<M.length) (ht:tmpL M x=unitL M.length i) : ∀ k,(x.getD k 0).natAbs≤12*B:=by
 intro k
 rcases Nat.lt_or_ge k n with hk | hk
 case inr=>rw [List.getD_eq_getElem?_getD,List.getElem?_eq_none (by omega)]; simp
 obtain ⟨ps,hI⟩:=hM.1
 have hu:Span (latM M) (uV d w qs C.length k):=(hM.2 _).2 ⟨hC.u_ker hk,fun j hj=>hC.u_far hk hj⟩
 obtain ⟨y,hy⟩:=span_cmb.1 hu
 have hyb:=coef_b hI (y:=y) (B:=B) (fun j=>by rw [← hy]; exact hC.u_abs k j) i i (Nat.le_refl _) hi
 -- the product with x, by the rows of M
 have e1:dotV n (uV d w qs C.length k) (vr x)=y i:=by
  have hd : ∀ r,r<M.length→dotV n (vr (M.getD r [])) (vr x)=if r=i then 1 else 0:=fun r hr=>by
   have h1:(tmpL M x).getD r 0=tmpE x (M.getD r []):=by
    unfold tmpL
    rw [List.getD_eq_getElem?_getD,List.getElem?_map,List.getElem?_eq_getElem hr,getD_get hr]; rfl
   rw [ht,unitL_getD hi,tmpE_dot hx,dot_comm] at h1
   exact h1.symm
  rw [hy]
  have e2:dotV n (cmb M y) (vr x)=sumZ (fun r=>y r*dotV n (vr (M.getD r [])) (vr x)) M.length:=by
   unfold dotV cmb
   have e3 : ∀ j,j<n→sumZ (fun r=>y r*eM M r j) M.length*vr x j=sumZ (fun r=>y r*(eM M r j*vr x j)) M.length:=fun j _=>by
    rw [Int.mul_comm, ← sumZ_mul]
    exact sumZ_congr fun r _=>by grind
   rw [sumZ_congr e3,sumZ_swap (fun j r=>y r*(eM M r j*vr x j)) M.length n]
   exact sumZ_congr fun r _=>sumZ_mul _ _ _
  rw [e2,sumZ_congr (g:=fun r=>y r*(if r=i then 1 else 0)) (fun r hr=>by rw [hd r hr]),sumZ_one (k:=i) hi (fun r _ hr=>by rw [if_neg hr]; simp)]
  simp
 -- and by the pivots of C
 have e4:dotV n (uV d w qs C.length k) (vr x)=d*vr x k-sumZ (fun s=>w s k*vr x (qs.getD s 0)) C.length:=by
  unfold uV
  rw [dot_sub,dot_sc,dot_comm n (uE k),dot_uE _ hk,dot_comm,dot_combr,Int.one_mul]
  congr 1
  exact sumZ_congr fun s hs=>by rw [dot_uE _ (hC.hF.lt s hs)]
 -- each product is at most B d
 have hd1:=hC.du.ne
 have hterm : ∀ s,s<C.length→(w s k*vr x (qs.getD s 0)).natAbs≤B*d.natAbs:=fun s hs=>by
  have h1:=redX_range hC.hF hx s hs
  rw [hrep] at h1
  obtain ⟨c,hc⟩:=pivot_dvd hC.hF (hC.du.span s hs) hd1 hs (hC.du.at' s hs)
  have hc0:c≠0:=by intro e; subst e; simp at hc; exact hd1 hc
  have h2:(eM C s (qs.getD s 0)).natAbs≤d.natAbs:=by
   rw [hc,Int.natAbs_mul]
   exact Nat.le_mul_of_pos_right _ (by omega)
  rw [Int.natAbs_mul]
  refine Nat.mul_le_mul (hC.du.abs s hs k) ?_
  show (x.getD (qs.getD s 0) 0).natAbs≤_
  omega
 have hsum : ∀ r,r≤C.length→(sumZ (fun s=>w s k*vr x (qs.getD s 0)) r).natAbs≤r*(B*d.natAbs):=by
  intro r
  induction r with
  | zero=>intro _; simp [sumZ]
  | succ r ih =>
   intro hr
   have h1:=ih (by omega)
   have h2:=hterm r (by omega)
   rw [Nat.add_mul,Nat.one_mul]
   show (sumZ (fun s=>w s k*vr x (qs.getD s 0)) r+w r k*vr x (qs.getD r 0)).natAbs≤_
   omega
 have h1:=hsum C.length (Nat.le_refl _)
 have h2:(y i).natAbs≤8*B:=Nat.le_trans hyb (Nat.mul_le_mul_right _ (by
  have hi4:i<4:=by omega
  rcases (show i=0∨i=1∨i=2∨i=3 by omega) with rfl | rfl | rfl | rfl <;> decide))
 have h3:C.length*(B*d.natAbs)≤4*(B*d.natAbs):=Nat.mul_le_mul_right _ hC4
 have h4:(d*vr x k).natAbs≤8*B+4*(B*d.natAbs):=by
  rw [e1] at e4
  obtain ⟨S,hS⟩ : ∃ S,S=sumZ (fun s=>w s k*vr x (qs.getD s 0)) C.length:=⟨_,rfl⟩
  rw [← hS] at e4 h1
  omega
 have h5:8*B≤8*(B*d.natAbs):=Nat.mul_le_mul_left _ (Nat.le_mul_of_pos_right _ (by omega))
 have h6:(vr x k).natAbs*d.natAbs≤12*B*d.natAbs:=by
  rw [Int.natAbs_mul,Nat.mul_comm] at h4
  have:12*B*d.natAbs=12*(B*d.natAbs):=Nat.mul_assoc _ _ _
  omega
 exact Nat.le_of_mul_le_mul_right h6 (by omega)
theorem TmOK.rep_unit {P:List Int} {C M:Mx} (h:TmOK P C M) {x:List Int} (hx:x.length=P.length) (hrep:redX C x=x) {i:Nat} (hi:i<M.length) (ht:tmpL M x=unitL M.length i) : ∀ z∈x,-12000000≤z∧z≤12000000:=fun z hz=>by
 obtain ⟨qs,d,w,hK⟩:=h.uC
 obtain ⟨psM,hIM⟩:=h.kM.1
 obtain ⟨psC,hIC⟩:=h.kC.1
 have h1:=isH_len hIM
 have h2:=isH_len hIC
 have h3:=h.p4
 obtain ⟨k,hk,rfl⟩:=List.getElem_of_mem hz
 have:=rep_small hK h.kM (by omega) (by omega) hx hrep hi ht k
 rw [getD_get hk] at this
 omega
end Go.Proofs.YtjnpakablgommaaGreatDoor
namespace Go.Proofs.YtjnpakablgommaaGreatDoor
open Go.RowKit Go.Sort
abbrev tmv (p c m:Value):Value := .agg #[p,c,m]
structure TmR (w:World) (t:Value) (P:List Int) (C M:Mx):Prop where
 ok:TmOK P C M
 v : ∃ sp cp sc lc cc sm lm cm,t=tmv (.slice sp P.length cp) (.slice sc lc cc) (.slice sm lm cm)∧RowR w (.slice sp P.length cp) P∧MatR w (.slice sc lc cc) C∧MatR w (.slice sm lm cm) M
theorem TmR.ext {w w':World} {t:Value} {P:List Int} {C M:Mx} (h:TmR w t P C M) (he:Ext w w'):TmR w' t P C M:=by
 obtain ⟨h1,sp,cp,sc,lc,cc,sm,lm,cm,rfl,h2,h3,h4⟩:=h
 exact ⟨h1,_,_,_,_,_,_,_,_,rfl,h2.ext he,h3.ext he,h4.ext he⟩
def BldPost (w:World) (P:List Int) (sp:Option Addr) (cp:Nat) (e:Ending) (w':World):Prop := ∃ C M sc lc cc sm lm cm,e = .returned (.tuple #[tmv (.slice sp P.length cp) (.slice sc lc cc) (.slice sm lm cm),.int .i64 0])∧TmOK P C M∧MatO w.heap.size w' (.slice sc lc cc) C∧MatO w.heap.size w' (.slice sm lm cm) M∧Ext w w'
theorem smK9 {R:Mx} (hm : ∀ r∈R,∀ z∈r,-9≤z∧z≤9):SmK R:=fun r hr z hz=>by have:=hm r hr z hz; omega
theorem chk9 {R:Mx} {n:Nat} (hR:Rect n R) (hn:n≤4) (hm : ∀ r∈R,∀ z∈r,-9≤z∧z≤9) : ∀ r∈R,chkRow r=0∧r.length=n:=fun r hr=>by
 have hg:r.any grt=false:=by
  cases h:r.any grt
  ·rfl
  ·obtain ⟨z,hz,hg⟩:=List.any_eq_true.1 h
   have:=hm r hr z hz
   unfold grt at hg
   have:=of_decide_eq_true hg
   omega
 have h2:=hR r hr
 refine ⟨?_,h2⟩
 unfold chkRow
 rw [if_neg (by omega),hg]; rfl
theorem kerL_small {n:Nat} {R F K:Mx} (hn:n≤4) (hR:Rect n R) (hm : ∀ r∈R,∀ z∈r,-9≤z∧z≤9) (hF:HnfOf n R F) (hK:KerL n (latM F) K):SmK K:=by
 obtain ⟨ps,d,w,h⟩:=kset_of hn hR (fun r hr z hz=>by have:=hm r hr z hz; omega) hF
 exact .of_abs (ent_le (h.ker_b hn (hK.of_form hF)))
theorem set2o {T:TypeId} {g B:Nat} {W:World} {a b:Value} (h:OwnV T B W g 2 [a,b]) (x y:Value) :
  OwnV T B ((W.setCell ⟨g,0,none⟩ x).setCell ⟨g,1,none⟩ y) g 2 [x,y]∧W.grownBy ((W.setCell ⟨g,0,none⟩ x).setCell ⟨g,1,none⟩ y) (some g):=by
 obtain ⟨h1,g1⟩:=h.set 0 x
 obtain ⟨h2,g2⟩:=h1.set 1 y
 exact ⟨h2,grown_trans g1 g2⟩
set_option maxHeartbeats 8000000 in
theorem build_any {w:World} {mv:Value} {P:List Int} {sp:Option Addr} {cp:Nat} {R:Mx} {vals:Bool} (hP:RowR w (.slice sp P.length cp) P) (hM:MatR w mv R) (hp:(∀ x∈P,SmP x)∧0<P.length∧P.length≤4 ∧ ∀ i (h:i+1<P.length),P[i]'(by omega)<P[i+1]) (hR:Rect P.length R) (hl:R.length≤4) (hm : ∀ r∈R,∀ z∈r,-9≤z∧z≤9) (hL:Laid w) :
  Calls Tryz.prog 72 #[.slice sp P.length cp,mv,.bool vals] w (BldPost w P sp cp):=by
 have hck:=Lib.hid (fun W (hW:Ext w W)=>pCheck_ok (hP.ext hW) hp.2.1 (by omega) hp.1 hp.2.2.2)
 have hsm : ∀ F,HnfOf P.length R F→SmK F:=fun K hK=>by
  have:=hnf_small hp.2.2.1 (fun r hr z hz=>by have:=hm r hr z hz; omega) hK
  exact fun r hr z hz=>by
   have h2:=ent_le this r hr z hz
   omega
 have hof:=Lib.hid (fun W (hW:Ext w W)=>Of_ok (hM.ext hW) (chk9 hR hp.2.2.1 hm) hp.2.1 hp.2.2.1 hl (smK9 hm) hsm (hL.ext hW))
 have hkS:=Lib.hid (fun F K S (h1:HnfOf P.length R F) (h2:KerL P.length (latM F) K) (h3:KerL P.length (latM K) S)=>tm_of hp hR hm h1 h2 h3)
 have hk1 : ∀ F,HnfOf P.length R F → ∀ K,KerL P.length (latM F) K→SmK K:=fun F hF K hK=>kerL_small hp.2.2.1 hR hm hF hK
 have hk2 : ∀ F,HnfOf P.length R F → ∀ K S,KerL P.length (latM F) K→KerL P.length (latM K) S→SmK S:=fun F hF K S hK hS=>(tm_of hp hR hm hF hK hS).1.sC
 have hsat:=Lib.hid (fun W v F (hW:Ext w W) (hF:HnfOf P.length R F) (h:MatR W v F)=>by
  obtain ⟨ps,hI⟩:=hF.1
  exact satur_ok (w:=W) (v:=v) (F:=F) h hI hp.2.1 hp.2.2.1 (hsm F hF) (hk1 F hF) (hk2 F hF) (hL.ext hW))
 have hann:=Lib.hid (fun W v F (hW:Ext w W) (hF:HnfOf P.length R F) (h:MatR W v F)=>by
  obtain ⟨ps,hI⟩:=hF.1
  exact annih_ok (w:=W) (v:=v) (F:=F) h hI hp.2.1 hp.2.2.1 (hsm F hF) (hk1 F hF) (hL.ext hW))
 have HO':=Lib.hid (own3 w 34 (.slice none 0 0) (.slice none 0 0) (.slice none 0 0))
 have hX:=(Ext.refl w).alloc (.cells #[.slice none 0 0,.slice none 0 0,.slice none 0 0] 34)
 obtain ⟨b6,hb6⟩ : ∃ b,b=w.heap.size:=⟨_,rfl⟩
 have hb6s:w.heap.size≤b6:=by omega
 have HO:=HO'
 clear hM hp hR hl hm hL hsm hk1 hk2 hP
 go_enter Tryz.func72,Tryz.ntmps72
 go_wp2_with fail
 refine (hck.out _ hX).mono ?_
 rintro e X ⟨rfl,hE1⟩
 go_wp2_with fail
 refine (hof.out _ (hX.trans hE1)).mono ?_
 rintro e X2 ⟨v1,F,rfl,hm1,hF,hE2⟩
 obtain ⟨a1,l1,k1,rfl⟩:=hm1.slice
 have e2:=(hX.trans hE1).trans hE2
 have Hm1:=Lib.hid hm1.mat
 have HF:=Lib.hid hF
 have e2a:=e2.alloc (.cells #[.int .i64 P.length,.slice a1 l1 k1] 204)
 have hE2':=hE2
 clear hm1 hF hE2 hof hck
 go_wp2_with fail
 refine (hsat.out _ _ _ e2a HF.out (Hm1.out.ext ((Ext.refl _).alloc _))).mono ?_
 rintro e X3 ⟨v2,S,rfl,hm2,⟨K,hK,hS⟩,hE3⟩
 obtain ⟨a2,l2,k2,rfl⟩:=hm2.slice
 have e3:=e2a.trans hE3
 have hbm:=e2a.size
 have Hm2:=Lib.hid hm2
 have x9:X3.cell? ⟨X2.heap.size,0,none⟩=some (.int .i64 P.length):=hE3.cell (by go_simp)
 have x9':X3.cell? ⟨X2.heap.size,1,none⟩=some (.slice a1 l1 k1):=hE3.cell (by go_simp)
 have H11:=Lib.hid (lat_alloc X3 204 (.int .i64 P.length) (.slice a2 l2 k2))
 have e3a:=e3.alloc (.cells #[.int .i64 P.length,.slice a2 l2 k2] 204)
 have ea3:=(Ext.refl X3).alloc (.cells #[.int .i64 P.length,.slice a2 l2 k2] 204)
 have y9:=ea3.cell x9
 have y9':=ea3.cell x9'
 clear hm2 hsat x9 x9'
 go_wp2_with fail
 refine (hann.out _ _ _ e3a HF.out ((Hm1.out.ext ((Ext.refl _).alloc _)).ext (hE3.trans ea3))).mono ?_
 rintro e X4 ⟨v3,K',rfl,hm3,hK',hE4⟩
 obtain rfl:=hK'.uniq hK
 obtain ⟨a3,l3,k3,rfl⟩:=hm3.slice
 have e4:=e3a.trans hE4
 have hbm2:=e3a.size
 have ea4:=(Ext.refl X4).alloc (.cells #[.int .i64 P.length,.slice a3 l3 k3] 204)
 have e4a:=e4.trans ea4
 have Hm3:=Lib.hid (hm3.ext ea4)
 have Hm2a:=Lib.hid (((Hm2.out.ext ea3).ext hE4).ext ea4)
 have H12:=Lib.hid (lat_alloc X4 204 (.int .i64 P.length) (.slice a3 l3 k3))
 have H11a:=Lib.hid ((H11.out.ext hE4).ext ea4)
 have hne:X3.heap.size≠X4.heap.size:=by
  have h1:=hE4.size
  have h2:X3.heap.size<(X3.alloc (.cells #[.int .i64 P.length,.slice a2 l2 k2] 204)).heap.size:=by simp
  omega
 have HO6:=Lib.hid (HO.out.ext (((((hE1.trans (hE2')).alloc _).trans hE3).trans ea3).trans hE4 |>.trans ea4))
 have Hok:=Lib.hid (hkS.out F K' S HF.out hK hS)
 have h3s:w.heap.size<X3.heap.size:=by
  have h1:=(((hE1.trans hE2').alloc _).trans hE3).size
  have h2:w.heap.size<(w.alloc (.cells #[.slice none 0 0,.slice none 0 0,.slice none 0 0] 34)).heap.size:=by simp
  omega
 have h4s:X3.heap.size≤X4.heap.size:=by
  have h1:=(ea3.trans hE4).size
  exact h1
 clear H11 hK hS hm3 hK' hkS hann hE1 hE2' hE3 hE4
 go_upto_region 9 with fail
 generalize hY:X4.alloc (.cells #[.int .i64 P.length,.slice a3 l3 k3] 204)=Y at *
 generalize X3.heap.size=b11 at *
 generalize X4.heap.size=b12 at *
 clear hY y9 y9' ea3 ea4 e4 e3a e3 e2a e2
 have c0:Y.cell? ⟨b11,0,none⟩=some (.int .i64 P.length):=H11a.out.cell (j:=0) (by simp)
 have c1:Y.cell? ⟨b11,1,none⟩=some (.slice a2 l2 k2):=H11a.out.cell (j:=1) (by simp)
 have d0:Y.cell? ⟨b12,0,none⟩=some (.int .i64 P.length):=H12.out.cell (j:=0) (by simp)
 have d1:Y.cell? ⟨b12,1,none⟩=some (.slice a3 l3 k3):=H12.out.cell (j:=1) (by simp)
 have h6a:w.heap.size≠b11:=by omega
 have h6b:w.heap.size≠b12:=by omega
 cases vals
 ·skip
  obtain ⟨Hr6,He6,Hg6⟩:=set3 e4a (Nat.le_refl _) HO6.out (.slice sp P.length cp) (.slice a2 l2 k2) (.slice a3 l3 k3)
  have HS6:=Lib.hid (mat_kept2 Hm2a.out HO6.out (by decide) (by decide) Hg6)
  have HK6:=Lib.hid (mat_kept2 Hm3.out HO6.out (by decide) (by decide) Hg6)
  have r0:=Hr6.cell (j:=0) (by simp)
  have r1:=Hr6.cell (j:=1) (by simp)
  have r2:=Hr6.cell (j:=2) (by simp)
  simp only [List.getElem_cons_zero,List.getElem_cons_succ] at r0 r1 r2
  have f0:=HO6.out.frozen 0
  have f1:=HO6.out.frozen 1
  have f2:=HO6.out.frozen 2
  have m0:=HO6.out.cell (j:=0) (by simp)
  have m1:=HO6.out.cell (j:=1) (by simp)
  have m2:=HO6.out.cell (j:=2) (by simp)
  simp only [List.getElem_cons_zero,List.getElem_cons_succ] at m0 m1 m2
  have Hres:=Lib.hid (show BldPost w P sp cp (.returned (.tuple #[tmv (.slice sp P.length cp) (.slice a2 l2 k2) (.slice a3 l3 k3),.int .i64 0])) _ from ⟨_,_,_,_,_,_,_,_,rfl,Hok.out.1,HS6.out.mono hbm,HK6.out.mono hbm2,He6⟩)
  clear Hr6 He6 Hg6 HS6 HK6 e4a
  go_wp2_with fail
  refine bodyPost_ret (v := .tuple #[tmv (.slice sp P.length cp) (.slice a2 l2 k2) (.slice a3 l3 k3),.int .i64 0]) (by simp [results,Tryz.results72,go_sem,r0,r1,r2]) rfl Hres.out
 ·obtain ⟨z1,g1⟩:=set2o H11a.out (.int .i64 P.length) (.slice a3 l3 k3)
  obtain ⟨z2,g2⟩:=set2o (H12.out.other g1 hne.symm) (.int .i64 P.length) (.slice a2 l2 k2)
  have z1':=z1.other g2 hne
  have f0:=H11a.out.frozen 0
  have f1:=H11a.out.frozen 1
  have f2:=H12.out.frozen 0
  have f3:=H12.out.frozen 1
  have eZ:=ext_trans_grown (ext_trans_grown e4a g1 (by omega)) g2 (by omega)
  have HZ6:=Lib.hid ((HO6.out.other g1 h6a).other g2 h6b)
  have HZ2:=Lib.hid (mat_kept2 (mat_kept2 Hm2a.out H11a.out (by decide) (by decide) g1) (H12.out.other g1 hne.symm) (by decide) (by decide) g2)
  have HZ3:=Lib.hid (mat_kept2 (mat_kept2 Hm3.out H11a.out (by decide) (by decide) g1) (H12.out.other g1 hne.symm) (by decide) (by decide) g2)
  have t0:=z1'.cell (j:=0) (by simp)
  have t1:=z1'.cell (j:=1) (by simp)
  have t2:=z2.cell (j:=0) (by simp)
  have t3:=z2.cell (j:=1) (by simp)
  simp only [List.getElem_cons_zero,List.getElem_cons_succ] at t0 t1 t2 t3
  clear z1 z2 z1' g1 g2
  go_upto_region 13 with fail
  generalize hZ:World.setCell (World.setCell (World.setCell (World.setCell Y _ _) _ _) _ _) _ _=Z at *
  clear hZ c0 c1 d0 d1 f0 f1 f2 f3
  obtain ⟨Hr6,He6,Hg6⟩:=set3 eZ (Nat.le_refl _) HZ6.out (.slice sp P.length cp) (.slice a3 l3 k3) (.slice a2 l2 k2)
  have HS6:=Lib.hid (mat_kept2 HZ3.out HZ6.out (by decide) (by decide) Hg6)
  have HK6:=Lib.hid (mat_kept2 HZ2.out HZ6.out (by decide) (by decide) Hg6)
  have r0:=Hr6.cell (j:=0) (by simp)
  have r1:=Hr6.cell (j:=1) (by simp)
  have r2:=Hr6.cell (j:=2) (by simp)
  simp only [List.getElem_cons_zero,List.getElem_cons_succ] at r0 r1 r2
  have f0:=HZ6.out.frozen 0
  have f1:=HZ6.out.frozen 1
  have f2:=HZ6.out.frozen 2
  have m0:=HZ6.out.cell (j:=0) (by simp)
  have m1:=HZ6.out.cell (j:=1) (by simp)
  have m2:=HZ6.out.cell (j:=2) (by simp)
  simp only [List.getElem_cons_zero,List.getElem_cons_succ] at m0 m1 m2
  have Hres:=Lib.hid (show BldPost w P sp cp (.returned (.tuple #[tmv (.slice sp P.length cp) (.slice a3 l3 k3) (.slice a2 l2 k2),.int .i64 0])) _ from ⟨_,_,_,_,_,_,_,_,rfl,Hok.out.2,HS6.out.mono hbm2,HK6.out.mono hbm,He6⟩)
  clear Hr6 He6 Hg6 HS6 HK6 e4a
  go_wp2_with fail
  refine bodyPost_ret (v := .tuple #[tmv (.slice sp P.length cp) (.slice a3 l3 k3) (.slice a2 l2 k2),.int .i64 0]) (by simp [results,Tryz.results72,go_sem,r0,r1,r2]) rfl Hres.out
end Go.Proofs.YtjnpakablgommaaGreatDoor
