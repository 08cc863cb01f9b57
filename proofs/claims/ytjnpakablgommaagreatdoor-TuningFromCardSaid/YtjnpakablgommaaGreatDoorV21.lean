/- Part 21 of the proof of the claim: contracts of the functions that it reaches, and plain laws; no condition. -/
import Derived.Test.YtjnpakablgommaaGreatDoorV18
import Derived.BigQuiet
import Derived.Test.YtjnpakablgommaaGreatDoorV14
import Derived.Test.YtjnpakablgommaaGreatDoorV16
set_option maxRecDepth 100000
namespace Go.Proofs.YtjnpakablgommaaGreatDoor
open Hnf (V Span Ech Red)
theorem vr_far {l:List Int} {j:Nat} (h:l.length≤j):vr l j=0:=by
 show l.getD j 0=0
 rw [List.getD_eq_getElem?_getD,List.getElem?_eq_none h]; rfl
theorem vr_take {l:List Int} {c:Nat} (j:Nat):vr (l.take c) j=if j<c then vr l j else 0:=by
 by_cases h:j<c
 ·rw [if_pos h]; exact getD_take h
 ·rw [if_neg h]; exact vr_far (by simp; omega)
theorem vr_drop (l:List Int) (c j:Nat):vr (l.drop c) j=vr l (c+j):=getD_drop l c j
theorem span_cut {c:Nat} {A B:List V} (hAB : ∀ r∈A,Span B (fun j=>if j<c then r j else 0)) {v:V} (h:Span A v):Span B (fun j=>if j<c then v j else 0):=by
 induction h with
 | zero=>exact span_of_eq .zero fun j=>by simp
 | @step v r q _ hr ih =>
  refine span_of_eq (ih.sub q (hAB r hr)) fun j => ?_
  simp only [Hnf.sub]; split <;> simp
theorem span_shift {c:Nat} {A B:List V} (hAB : ∀ r∈A,Span B (fun j=>r (c+j))) {v:V} (h:Span A v):Span B (fun j=>v (c+j)):=by
 induction h with
 | zero=>exact .zero
 | @step v r q _ hr ih=>exact ih.sub q (hAB r hr)
theorem lat_at {H:Mx} {v:V} (h:v∈latM H) : ∃ i,i<H.length∧v=vr (H.getD i []):=by
 obtain ⟨r,hr,rfl⟩:=List.mem_map.1 h
 obtain ⟨i,hi,rfl⟩:=List.getElem_of_mem hr
 exact ⟨i,hi,by rw [getD_get hi]⟩
theorem eM_vrD (H:Mx) (i j:Nat):vr (H.getD i []) j=eM H i j:=rfl
theorem left_form {c:Nat} {M H:Mx} (hM:Rect c M) (hH:HnfOf (c+M.length) (wideM M) H) :
  ∃ qs,IsH c qs ((upr c H).map (List.take c))∧(∀ v∈latM ((upr c H).map (List.take c)),Span (latM M) v)∧(∀ v∈latM M,Span (latM ((upr c H).map (List.take c))) v):=by
 obtain ⟨⟨ps,hI⟩,h1,h2⟩:=hH
 obtain ⟨u,hu,e1,e2,p1,p2⟩:=hI.split c
 rw [e1]
 refine ⟨ps.take u,hI.leftU (by omega) hu p1,fun v hv => ?_,fun v hv => ?_⟩
 ·obtain ⟨r,hr,rfl⟩:=List.mem_map.1 hv
  obtain ⟨s,hs,rfl⟩:=List.mem_map.1 hr
  have hw:=wide_span hM (h1 _ (List.mem_map.2 ⟨s,List.mem_of_mem_take hs,rfl⟩))
  refine span_cmb.2 ⟨fun i=>vr s (c+i),?_⟩
  funext j
  rw [vr_take]
  by_cases hj:j<c
  ·rw [if_pos hj]; exact hw.1 j hj
  ·rw [if_neg hj]; exact (sumZ_zero fun i _=>by rw [eM_far hM (by omega)]; simp).symm
 ·obtain ⟨r,hr,rfl⟩:=List.mem_map.1 hv
  obtain ⟨i,hi,rfl⟩:=List.getElem_of_mem hr
  have hW:Span (latM H) (vr ((wideM M)[i]'(by simpa using hi))):=h2 _ (List.mem_map.2 ⟨_,List.getElem_mem _,rfl⟩)
  have hc:=span_cut (c:=c) (B:=latM ((H.take u).map (List.take c))) (fun r hr=>by
   obtain ⟨k,hk,rfl⟩:=lat_at hr
   by_cases hku:k<u
   ·refine .mem (List.mem_map.2 ⟨(H.getD k []).take c,List.mem_map.2 ⟨H.getD k [],?_,rfl⟩,?_⟩)
    ·rw [getD_get hk]
     have:k<(H.take u).length:=by simp; omega
     have h3:=List.getElem_mem this
     rwa [List.getElem_take] at h3
    ·funext j; exact vr_take j
   ·refine span_of_eq .zero fun j => ?_
    by_cases hj:j<c
    ·rw [if_pos hj,eM_vrD]; exact hI.left k hk j (by have:=p2 k (by omega) hk; omega)
    ·rw [if_neg hj]) hW
  refine span_of_eq hc fun j => ?_
  rw [wide_vr hM hi]
  by_cases hj:j<c
  ·rw [if_pos hj,if_pos hj,eM_vr hi]
  ·rw [if_neg hj, ← eM_vr hi,eM_far hM (by omega)]
theorem upr_rows {c m:Nat} {ps:List Nat} {H:Mx} (hI:IsH m ps H):Rect m (upr c H) ∧ ∀ r∈upr c H,pv r<c∧pv r<m:=by
 refine ⟨fun r hr=>hI.rect r (List.mem_filter.1 hr).1,fun r hr => ?_⟩
 obtain ⟨h1,h2⟩:=List.mem_filter.1 hr
 refine ⟨of_decide_eq_true h2,?_⟩
 obtain ⟨i,hi,rfl⟩:=List.getElem_of_mem h1
 have:=hI.lt i hi
 rwa [hI.pvs hi,getD_get hi] at this
def solL (c:Nat) (H:Mx) (n:Nat) (b:List Int):List Int:=redX (upr c H) (b++List.replicate n 0)
@[simp] theorem solL_length (c:Nat) (H:Mx) (n:Nat) (b:List Int):(solL c H n b).length=b.length+n:=by simp [solL]
theorem vr_zeros (b:List Int) (n j:Nat):vr (b++List.replicate n 0) j=if j<b.length then vr b j else 0:=by
 unfold vr
 simp only [List.getD_eq_getElem?_getD]
 by_cases hj:j<b.length
 ·rw [if_pos hj,List.getElem?_append_left hj]
 ·rw [if_neg hj,List.getElem?_append_right (by omega),List.getElem?_replicate]; split <;> rfl
theorem sol_zero {c:Nat} {M H:Mx} {b:List Int} (hM:Rect c M) (hH:HnfOf (c+M.length) (wideM M) H) (hb:b.length=c):zeroL ((solL c H M.length b).take c)↔Span (latM M) (vr b):=by
 obtain ⟨qs,hU,a1,a2⟩:=left_form hM hH
 obtain ⟨⟨ps,hI⟩,h1,h2⟩:=hH
 have hr:=upr_rows (c:=c) hI
 unfold solL
 rw [redX_left _ _ hr.1 (by simp [hb]) hr.2,List.take_left' hb,redX_zero hU hb]
 exact ⟨fun h=>h.trans a1,fun h=>h.trans a2⟩
def negM (l:List Int):List Int:=l.map fun z => -z
@[simp] theorem negM_length (l:List Int):(negM l).length=l.length:=by simp [negM]
theorem vr_negM (l:List Int) (j:Nat):vr (negM l) j = -vr l j:=by
 have:=congrFun (vr_neg l) j
 simp only [Hnf.sub] at this
 show vr (l.map fun z => -z) j=_
 omega
theorem sol_cmb {c:Nat} {M H:Mx} {b:List Int} (hM:Rect c M) (hH:HnfOf (c+M.length) (wideM M) H) (hb:b.length=c) (hz:zeroL ((solL c H M.length b).take c)) : ∀ j,j<c→cmb M (vr (negM ((solL c H M.length b).drop c))) j=vr b j:=by
 intro j hj
 obtain ⟨⟨ps,hI⟩,h1,h2⟩:=hH
 have hr:=upr_rows (c:=c) hI
 have hs:=redX_span (n:=c+M.length) (upr c H) (b++List.replicate M.length 0) hr.1 (by simp [hb])
 have hs2:=(hs.mono (N:=latM H) fun v hv=>by
  obtain ⟨r,hr,rfl⟩:=List.mem_map.1 hv
  exact List.mem_map.2 ⟨r,(List.mem_filter.1 hr).1,rfl⟩).trans h1
 have hw:=(wide_span hM hs2).1 j hj
 have e:redX (upr c H) (b++List.replicate M.length 0)=solL c H M.length b:=rfl
 rw [e] at hw
 have z0:=zero_vr.1 hz j
 rw [vr_take,if_pos hj] at z0
 simp only [Hnf.sub] at hw
 rw [z0,vr_zeros,hb,if_pos hj] at hw
 have e2:(fun i=>vr (b++List.replicate M.length 0) (c+i)-1*vr (solL c H M.length b) (c+i))=vr (negM ((solL c H M.length b).drop c)):=by
  funext i
  rw [vr_negM,vr_drop,vr_zeros,hb,if_neg (by omega)]; omega
 rw [e2] at hw
 omega
theorem ech_drop : ∀ (k:Nat) {F:List (Nat×V)} {b:Nat},Ech b F → ∃ b',Ech b' (F.drop k)
 | 0,F,b,h=>⟨b,h⟩
 | k+1,[],b,h=>⟨b,h⟩
 | k+1,(p,f)::F,b,h=>by obtain ⟨_,_,_,h4⟩:=h; exact ech_drop k h4
theorem span_tail {F:List (Nat×V)} {b:Nat} (hE:Ech b F) {v:V} (hv:Span (Hnf.rows F) v) : ∀ u,u≤F.length→(∀ i,i<u → ∀ (h:i<F.length),v (F[i]).1=0)→Span (Hnf.rows (F.drop u)) v
 | 0,_,_=>hv
 | u+1,hu,hz=>by
  have ih:=span_tail hE hv u (by omega) (fun i hi h=>hz i (by omega) h)
  obtain ⟨b',hb'⟩:=ech_drop u hE
  rw [List.drop_eq_getElem_cons (by omega)] at ih hb'
  obtain ⟨p,hp⟩ : ∃ p,p=F[u]'(by omega):=⟨_,rfl⟩
  have h0:=hz u (by omega) (by omega)
  rw [← hp] at ih hb' h0
  obtain ⟨p1,p2⟩:=p
  exact hb'.tail ih h0
theorem krn_form {c:Nat} {M H:Mx} (hM:Rect c M) (hH:HnfOf (c+M.length) (wideM M) H) :
  ∃ qs,IsH M.length qs (krn c H) ∧ ∀ y:V,Span (latM (krn c H)) y↔(∀ j,j<c→cmb M y j=0) ∧ ∀ i,M.length≤i→y i=0:=by
 obtain ⟨⟨ps,hI⟩,h1,h2⟩:=hH
 obtain ⟨u,hu,e1,e2,p1,p2⟩:=hI.split c
 have hK:krn c H=(H.drop u).map (List.drop c):=by unfold krn; rw [e2]
 rw [hK]
 have hD:=hI.rightD (m:=M.length) rfl hu p2
 refine ⟨_,hD,fun y=>⟨fun h => ?_,fun h => ?_⟩⟩
 ·induction h with
  | zero=>exact ⟨fun j _=>cmb_zero M j,fun _ _=>rfl⟩
  | @step v r q _ hr ih =>
   obtain ⟨x,hx,rfl⟩:=List.mem_map.1 hr
   obtain ⟨s,hs,rfl⟩:=List.mem_map.1 hx
   obtain ⟨k,hk,rfl⟩:=List.getElem_of_mem hs
   have hk':u+k<H.length:=by simp at hk; omega
   rw [List.getElem_drop] at hx hr ⊢
   have hw:=wide_span hM (h1 _ (List.mem_map.2 ⟨H[u+k],List.getElem_mem hk',rfl⟩))
   refine ⟨fun j hj => ?_,fun i hi => ?_⟩
   ·rw [cmb_sub,ih.1 j hj]
    have e3:vr (List.drop c H[u+k])=fun i=>vr H[u+k] (c+i):=by funext i; exact vr_drop _ _ _
    rw [e3, ← hw.1 j hj]
    have:=hI.left (u+k) hk' j (by have:=p2 (u+k) (by omega) hk'; omega)
    rw [eM_vr hk'] at this
    rw [this]; simp
   ·simp only [Hnf.sub]
    rw [ih.2 i hi,vr_drop,hw.2 _ (by omega)]; simp
 ·have hv:Span (latM (wideM M)) (fun j=>if j<c then 0 else y (j-c)):=by
   refine span_wide hM (fun j hj => ?_) fun j hj => ?_
   ·rw [if_pos hj]
    have e3:(fun i=>if c+i<c then (0:Int) else y (c+i-c))=y:=by funext i; rw [if_neg (by omega),Nat.add_sub_cancel_left]
    rw [e3,h.1 j hj]
   ·rw [if_neg (by omega)]; exact h.2 _ (by omega)
  have hH2:=hv.trans h2
  rw [← wps_rows hI.len] at hH2
  have ht:=span_tail hI.ech hH2 u (by simp [wps,hI.len]; omega) (fun i hi h=>by
   have hpi:((wps ps H)[i]'h).1=ps.getD i 0:=by
    have hil:i<ps.length:=by rw [hI.len]; omega
    rw [getD_get hil]; simp [wps]
   rw [hpi,if_pos (p1 i hi)])
  have e3:Hnf.rows ((wps ps H).drop u)=latM (H.drop u):=by
   have:=wps_rows hI.len
   unfold Hnf.rows at this ⊢
   rw [List.map_drop,this]; simp [latM,List.map_drop]
  rw [e3] at ht
  have hsh:=span_shift (c:=c) (B:=latM ((H.drop u).map (List.drop c))) (fun r hr=>by
   obtain ⟨s,hs,rfl⟩:=List.mem_map.1 hr
   refine .mem (List.mem_map.2 ⟨s.drop c,List.mem_map.2 ⟨s,hs,rfl⟩,?_⟩)
   funext j; exact vr_drop _ _ _) ht
  refine span_of_eq hsh fun j => ?_
  rw [if_neg (by omega),Nat.add_sub_cancel_left]
def solX (c:Nat) (H:Mx) (n:Nat) (b:List Int):List Int:=redX (krn c H) (negM ((solL c H n b).drop c))
theorem solX_length {c n:Nat} {H:Mx} {b:List Int} (hb:b.length=c):(solX c H n b).length=n:=by
 unfold solX
 rw [redX_length,negM_length,List.length_drop,solL_length,hb]; omega
theorem solX_cmb {c:Nat} {M H:Mx} {b:List Int} (hM:Rect c M) (hH:HnfOf (c+M.length) (wideM M) H) (hb:b.length=c) (hz:zeroL ((solL c H M.length b).take c)) : ∀ j,j<c→cmb M (vr (solX c H M.length b)) j=vr b j:=by
 intro j hj
 obtain ⟨qs,hK,hS⟩:=krn_form hM hH
 have h0:(negM ((solL c H M.length b).drop c)).length=M.length:=by simp [hb]
 have hs:=redX_span (krn c H) _ hK.rect h0
 have:=((hS _).1 hs).1 j hj
 rw [cmb_sub,sol_cmb hM hH hb hz j hj] at this
 unfold solX
 omega
end Go.Proofs.YtjnpakablgommaaGreatDoor
namespace Go.Proofs.YtjnpakablgommaaGreatDoor
open Hnf
theorem wps_at {ps:List Nat} {F:Mx} (hl:ps.length=F.length) {g:Nat×V} (h:g∈wps ps F) : ∃ i,i<F.length∧g.1=ps.getD i 0∧g.2=vr (F.getD i []):=by
 unfold wps at h
 obtain ⟨x,hx,rfl⟩:=List.mem_map.1 h
 obtain ⟨i,hi,rfl⟩:=List.getElem_of_mem hx
 simp only [List.length_zip] at hi
 refine ⟨i,by omega,?_,?_⟩
 ·rw [getD_get (by omega)]; simp
 ·rw [getD_get (by omega)]; simp
theorem IsH.lead {m p:Nat} {qs:List Nat} {K:Mx} (hI:IsH m qs K) {v:V} (hs:Span (latM K) v) (hv:v p≠0) (h0 : ∀ i,i<p→v i=0) : ∃ i,i<K.length∧qs.getD i 0=p∧eM K i p∣v p:=by
 rw [← wps_rows hI.len] at hs
 obtain ⟨g,hg,hp,hd⟩:=hI.ech.lead hs hv h0
 obtain ⟨i,hi,h1,h2⟩:=wps_at hI.len hg
 exact ⟨i,hi,by rw [← h1,hp],by rw [h2] at hd; exact hd⟩
theorem IsH.inj {m i k:Nat} {qs:List Nat} {K:Mx} (hI:IsH m qs K) (hi:i<K.length) (hk:k<K.length) (h:qs.getD i 0=qs.getD k 0):i=k:=by
 rcases Nat.lt_trichotomy i k with h1 | h1 | h1
 ·have:=hI.inc i k h1 hk; omega
 ·exact h1
 ·have:=hI.inc k i h1 hi; omega
def two (a b:Int):V:=fun k=>if k=0 then a else if k=1 then b else 0
end Go.Proofs.YtjnpakablgommaaGreatDoor
namespace Go.Proofs.YtjnpakablgommaaGreatDoor
open Go.RowKit Go.Sort
theorem lless_zero {w:World} {s1 s2:Option Addr} {n1 c1 n2 c2:Nat} :
  Calls Tryz.prog 246 #[.slice s1 n1 c1,I 0,.slice s2 n2 c2] w fun e w'=>e = .returned (.tuple #[])∧Ext w w':=by
 have hkz:(Lib.itoa 0==[48])=true:=by rw [itoa_eq_zero]; rfl
 go_enter Tryz.func246,Tryz.ntmps246
 go_wp2_with fail
 refine bodyPost_ret (results_none rfl _ _ _) rfl ?_
 exact ⟨rfl,Ext.refl _⟩
theorem nf_zero {n i c d:Nat} {ps:List Nat} {K:Mx} (hI:IsH n ps K) (hi:i<K.length) (hd:d<i) (hc:ps.getD d 0=c):eM K i c=0 :=
 hI.left i hi c (by rw [← hc]; exact hI.inc d i hd hi)
set_option maxHeartbeats 4000000 in
theorem lform_hnf {w0 w:World} {g cap n L:Nat} {vs:List Value} {K:Mx} {ps:List Nat} (hI:IsH n ps K) (hLK:L=K.length) (hL0:0<L) (hn:n≤1000000) (hN:L≤1000000) (hcap:L≤cap) (hO:OwnV 306 w0.heap.size w g cap vs) (hvl:vs.length=L)
  (hr : ∀ i (_:i<K.length) (h':i<vs.length),IntsR w0 vs[i] K[i]) (hb : ∀ i c,nd (eM K i c)<LIM) (hL:Laid w0) (hE:Ext w0 w) :
  Calls Tryz.prog 195 #[slv g L cap,.int .i64 n] w fun e w'=>e = .returned (slv g L cap)∧OwnV 306 w0.heap.size w' g cap vs∧Ext w0 w':=by
 have hrow : ∀ wr,OwnV 306 w0.heap.size wr g cap vs→Ext w0 wr → ∀ i c,i<L→c<n → ∃ br or cr,wr.cell? ⟨g,i,none⟩=some (.slice (some ⟨br,or,none⟩) n cr)∧wr.cell? ⟨br,or+c,none⟩=some (I (eM K i c))∧vs[i]? = some (.slice (some ⟨br,or,none⟩) n cr):=fun wr hOr hEr i c hi hc=>by
  have hiK:i<K.length:=by omega
  have hiv:i<vs.length:=by omega
  obtain ⟨sr,br,or,cr,e,h1,h2⟩:=hr i hiK hiv
  have hl:K[i].length=n:=hI.rect _ (List.getElem_mem hiK)
  rw [hl] at e
  obtain rfl:=h2.addr (by simp; omega)
  have hc1:=hOr.cell (j:=i) hiv
  rw [e] at hc1
  refine ⟨br,or,cr,hc1,?_,by rw [List.getElem?_eq_getElem hiv,e]⟩
  have h3:=h2.cell c (I (eM K i c)) (by
   unfold eM
   rw [getD_get hiK,getD_get (by omega)]
   simp [ss,hl,hc])
  exact hEr.cell h3
 have Hrow:=Lib.hid hrow
 have HI:=Lib.hid hI
 have Hb:=Lib.hid hb
 have HL:=Lib.hid hL
 have HLK:=Lib.hid hLK
 have Hgb:=Lib.hid hO.lt.1
 have Hvl:=Lib.hid hvl
 have Hfin:=Lib.hid (show ∀ i,i<L→ps.getD i 0<n from fun i hi=>hI.lt i (by omega))
 clear hrow hI hr hb hL hLK hvl
 go_enter Tryz.func195,Tryz.ntmps195
 go_wp2_with fail
 go_loopw [5,6] (fun dn idx wr => ∃ (c d:Nat),c≤n∧d≤L∧idx = .int .i64 c∧dn = .int .i64 d∧Hid (∀ i,i<d→ps.getD i 0<c)∧Hid (∀ i,d≤i→i<L→c≤ps.getD i 0)∧Hid (OwnV 306 w0.heap.size wr g cap vs)∧Ext w0 wr) (fun _ idx _=>n-(intOf idx).toNat)
 case atStart=>exact ⟨0,0,by omega,by omega,by go_num,by go_num,Lib.hid (fun i h=>by omega),Lib.hid (fun i _ _=>by omega),Lib.hid hO,hE⟩
 case round =>
  clear hO hE
  obtain ⟨c,d,hc,hdL,rfl,rfl,Hlo,Hhi,HO,hE⟩:=hrel
  generalize wr=U at *
  have hdcap:(d:Int)≤(cap:Int):=by omega
  by_cases hcn:c<n
  ·have hci:(c:Int)<(n:Int):=by omega
   by_cases hdl:d<L
   ·have hdi:(d:Int)<(L:Int):=by omega
    by_cases hP:ps.getD d 0=c
    case neg =>
     have Hz:=Lib.hid (show ∀ i,d≤i→i<L→eM K i c=0 from fun i h1 h2=>HI.out.left i (by rw [← HLK.out]; exact h2) c (by
      have h3:=Hhi.out d (Nat.le_refl _) hdl
      rcases Nat.lt_or_ge d i with h4 | h4
      ·have:=HI.out.inc d i h4 (by rw [← HLK.out]; exact h2); omega
      ·have:i=d:=by omega
       subst this; omega))
     have Hhi2:=Lib.hid (show ∀ i,d≤i→i<L→c+1≤ps.getD i 0 from fun i h1 h2=>by
      have h3:=Hhi.out d (Nat.le_refl _) hdl
      rcases Nat.lt_or_ge d i with h4 | h4
      ·have:=HI.out.inc d i h4 (by rw [← HLK.out]; exact h2); omega
      ·have:i=d:=by omega
       subst this; omega)
     have Hlo2:=Lib.hid (show ∀ i,i<d→ps.getD i 0<c+1 from fun i h=>by have:=Hlo.out i h; omega)
     clear hP
     go_wp2_with fail
     go_loopw [5] (fun dn wr=>dn = .int .i64 d∧Hid (OwnV 306 w0.heap.size wr g cap vs)∧Ext w0 wr) (fun _ _=>0)
     case atStart=>exact ⟨rfl,HO,hE⟩
     case round =>
      clear HO hE
      obtain ⟨rfl,HO,hE⟩:=hrel
      generalize wr=V at *
      go_wp2_with fail
      go_loopw [7,8] (fun kk idx wr => ∃ i:Nat,d≤i∧i≤L∧idx = .int .i64 i∧kk = .int .i64 (-1)∧Hid (OwnV 306 w0.heap.size wr g cap vs)∧Ext w0 wr) (fun _ idx _=>L-(intOf idx).toNat)
      case atStart=>exact ⟨d,by omega,by omega,rfl,rfl,HO,hE⟩
      case round =>
       clear HO hE
       obtain ⟨i,hi1,hi2,rfl,rfl,HO,hE⟩:=hrel
       generalize wr=X at *
       by_cases hlt:i<L
       ·have hii:(i:Int)<(L:Int):=by omega
        obtain ⟨br,or,cr,c1,cz,_⟩:=Hrow.out X HO.out hE i c hlt hcn
        rw [Hz.out i hi1 hlt] at cz
        have hitz:(Lib.itoa 0==[48])=true:=by rw [itoa_eq_zero]; rfl
        go_wp2_with fail
        go_quiet (fail)
        go_wp2_with fail
        go_roundw
        case rel=>exact ⟨i+1,by omega,by omega,by go_num,rfl,Lib.hid (HO.out.ext ((Ext.refl _).drewN _)),hE.drewN _⟩
        case measure=>simp [intOf] <;> omega
       ·have hie:i=L:=by omega
        subst hie
        go_wp2_with fail
        go_roundw
        case rel=>exact ⟨c+1,d,by omega,by omega,by go_num,rfl,Hlo2,Hhi2,HO,hE⟩
        case measure=>simp [intOf] <;> omega
    case pos =>
     obtain ⟨y,hy⟩ : ∃ y,y=eM K d c:=⟨_,rfl⟩
     have hy0:0<y:=by rw [hy, ← hP]; exact HI.out.pos d (by rw [← HLK.out]; exact hdl)
     have Hy:=Lib.hid hy
     have Hz:=Lib.hid (show ∀ i,d<i→i<L→eM K i c=0 from fun i h1 h2=>nf_zero HI.out (by rw [← HLK.out]; exact h2) h1 hP)
     have Hab:=Lib.hid (show ∀ j,j<d→0≤eM K j c∧eM K j c<y from fun j h=>by
      have:=HI.out.red j d h (by rw [← HLK.out]; exact hdl)
      rw [hP] at this
      rw [hy]; exact this)
     have Hhi2:=Lib.hid (show ∀ i,d+1≤i→i<L→c+1≤ps.getD i 0 from fun i h1 h2=>by
      have:=HI.out.inc d i (by omega) (by rw [← HLK.out]; exact h2); omega)
     have Hlo2:=Lib.hid (show ∀ i,i<d+1→ps.getD i 0<c+1 from fun i h=>by
      by_cases e:i=d
      ·subst e; omega
      ·have:=Hlo.out i (by omega); omega)
     have hy1:y≠0:=by omega
     have Hy1:=Lib.hid hy1
     have Hyl:=Lib.hid (show nd y<LIM by rw [hy]; exact Hb.out d c)
     have hity:(Lib.itoa y==[48])=false:=by rw [itoa_eq_zero]; exact decide_eq_false hy1
     have hitz:(Lib.itoa 0==[48])=true:=by rw [itoa_eq_zero]; rfl
     have Hsg:=Lib.hid (show y.sign=1 from Int.sign_eq_one_of_pos hy0)
     clear hP hy hy0 hy1
     go_wp2_with fail
     go_loopw [5] (fun dn wr=>dn = .int .i64 d∧Hid (OwnV 306 w0.heap.size wr g cap vs)∧Ext w0 wr) (fun _ _=>0)
     case atStart=>exact ⟨rfl,HO,hE⟩
     case round =>
      clear HO hE
      obtain ⟨rfl,HO,hE⟩:=hrel
      generalize wr=V at *
      go_wp2_with fail
      go_loopw [7,8] (fun kk idx wr => ∃ (i:Nat) (kv:Int),d≤i∧i≤L∧idx = .int .i64 i∧kk = .int .i64 kv∧((i=d∧kv = -1)∨(d<i∧kv=(d:Int)))∧Hid (OwnV 306 w0.heap.size wr g cap vs)∧Ext w0 wr) (fun _ idx _=>L-(intOf idx).toNat)
      case atStart=>exact ⟨d,-1,by omega,by omega,rfl,rfl,.inl ⟨rfl,rfl⟩,HO,hE⟩
      case round =>
       clear HO hE
       obtain ⟨i,kv,hi1,hi2,rfl,rfl,hkv,HO,hE⟩:=hrel
       generalize wr=X at *
       by_cases hlt:i<L
       ·have hii:(i:Int)<(L:Int):=by omega
        obtain ⟨br,or,cr,c1,cz,_⟩:=Hrow.out X HO.out hE i c hlt hcn
        rcases hkv with ⟨rfl,rfl⟩ | ⟨hdi2,rfl⟩
        ·rw [← Hy.out] at cz
         go_wp2_with fail
         go_quiet (fail)
         go_wp2_with fail
         go_roundw
         case rel=>exact ⟨i+1,(i:Int),by omega,by omega,by go_num,rfl,.inr ⟨by omega,rfl⟩,Lib.hid (HO.out.ext ((Ext.refl _).drewN _)),hE.drewN _⟩
         case measure=>simp [intOf] <;> omega
        ·rw [Hz.out i hdi2 hlt] at cz
         clear hity
         go_wp2_with fail
         go_quiet (fail)
         go_wp2_with fail
         go_roundw
         case rel=>exact ⟨i+1,(d:Int),by omega,by omega,by go_num,rfl,.inr ⟨by omega,rfl⟩,Lib.hid (HO.out.ext ((Ext.refl _).drewN _)),hE.drewN _⟩
         case measure=>simp [intOf] <;> omega
       ·have hie:i=L:=by omega
        obtain rfl:kv=(d:Int):=by omega
        have hd0 : ¬ (d:Int)<0:=by omega
        obtain ⟨bd,od,cd,c1,cy,hvd⟩:=Hrow.out X HO.out hE d c hdl hcn
        have fz:=HO.out.frozen d
        obtain ⟨hs1,hg1⟩:=HO.out.set d (.slice (some ⟨bd,od,none⟩) n cd)
        obtain ⟨hs2,hg2⟩:=hs1.set d (.slice (some ⟨bd,od,none⟩) n cd)
        have hvs:(vs.set d (.slice (some ⟨bd,od,none⟩) n cd)).set d (.slice (some ⟨bd,od,none⟩) n cd)=vs:=by
         obtain ⟨h1,h2⟩:=List.getElem?_eq_some_iff.1 hvd
         rw [List.set_set, ← h2,List.set_getElem_self]
        rw [hvs] at hs2
        have HS2:=Lib.hid (show OwnV 306 w0.heap.size _ g cap vs∧Ext w0 _ from ⟨hs2,ext_trans_grown hE (grown_trans hg1 hg2) Hgb.out⟩)
        clear hs1 hs2 hg1 hg2 hvs cy hvd hkv hie
        go_wp2_with fail
        go_region
        have hO3:=HS2.out.1.ext ((Ext.refl _).drew)
        have hE3:=HS2.out.2.drew
        have HO3:=Lib.hid hO3
        clear hO3 HS2 HO hE c1 fz
        generalize hW3:World.drew (World.setCell _ _ _)=W3 at *
        clear hW3
        go_wp2_with fail
        go_loopw [9,10] (fun rv idx wr => ∃ j:Nat,d<j∧j≤L∧idx = .int .i64 j∧rv = .bool false∧Hid (OwnV 306 w0.heap.size wr g cap vs)∧Ext w0 wr) (fun _ idx _=>L-(intOf idx).toNat)
        case atStart=>exact ⟨d+1,by omega,by omega,by go_num,rfl,HO3,hE3⟩
        case round =>
         clear HO3 hE3
         obtain ⟨j,hj1,hj2,rfl,rfl,HO,hE⟩:=hrel
         generalize wr=Y at *
         by_cases hjl:j<L
         ·have hji:(j:Int)<(L:Int):=by omega
          obtain ⟨bj,oj,cj,a1,a2,_⟩:=Hrow.out Y HO.out hE j c hjl hcn
          obtain ⟨bd,od,cd,c1,c2,_⟩:=Hrow.out Y HO.out hE d c hdl hcn
          rw [Hz.out j hj1 hjl] at a2
          rw [← Hy.out] at c2
          have k1:=cell_regrown a1
          have k2:=cell_regrown a2
          have k3:=cell_regrown c1
          have k4:=cell_regrown c2
          have hdm:=fun W (h:Ext Y W)=>DivMod_any (a:=0) (b:=y) (w:=W) (by have:=Hb.out j c; rw [Hz.out j hj1 hjl] at this; exact this) Hyl.out Hy1.out (HL.out.ext (hE.trans h))
          rw [show (0:Int).fdiv y=0 from Int.zero_fdiv y,show (0:Int).fmod y=0 from Int.zero_fmod y] at hdm
          have bD:=Lib.hid (quietC (w:=Y) (fun W h=>hdm W h))
          clear hdm hity
          go_wp2_with fail
          refine wp_region_quiet_below (by kernel_rfl) (by kernel_rfl) ?_
          repeat (quiet_step (exact bD.out _ _))
          refine wpQuiet_nil ?_
          intro _ hw'
          obtain ⟨⟨dq,osq⟩,hw''⟩:=hw'
          subst hw''
          have hE6:=ext_regrown Y dq osq
          have m3:=k1 dq osq
          have m4:=k3 dq osq
          clear bD k1 k2 k3 k4
          generalize hW6:grow (redrawn _ _) _=W6 at *
          have n3:=cell_regrown m3
          have n4:=cell_regrown m4
          clear hW6 m3 m4
          go_wp2_with fail
          refine wp_region_quiet_tail 9 (by kernel_rfl) (by kernel_rfl) ?_
          simp only [List.take_succ_cons,List.take_zero,List.drop_succ_cons,List.drop_zero]
          repeat (quiet_step (fail))
          refine wpQuiet_nil ?_
          intro _ hw'
          obtain ⟨⟨dq,osq⟩,hw''⟩:=hw'
          subst hw''
          have hE7:=hE6.trans (ext_regrown _ dq osq)
          clear n3 n4
          generalize hW7:grow (redrawn _ _) _=W7 at *
          clear hW7
          go_wp2_with fail
          refine lless_zero.mono ?_
          rintro e W8 ⟨rfl,hE8⟩
          have hE9:=hE7.trans hE8
          have HO9:=Lib.hid (HO.out.ext hE9)
          have hEE:=hE.trans hE9
          go_wp2_with fail
          go_roundw
          case rel=>exact ⟨j+1,by omega,by omega,by go_num,by simp,HO9,hEE⟩
          case measure=>simp [intOf] <;> omega
         ·have hje:j=L:=by omega
          obtain ⟨bd,od,cd,c1,c2,_⟩:=Hrow.out Y HO.out hE d c hdl hcn
          rw [← Hy.out] at c2
          have HS:=Lib.hid (Sign_any y)
          rw [Hsg.out] at HS
          clear hje
          go_wp2_with fail
          refine (HS.out _).mono ?_
          rintro e W4 ⟨rfl,hE4⟩
          have HO4:=Lib.hid (HO.out.ext hE4)
          have hE5:=hE.trans hE4
          clear HS c1 c2 HO hE
          go_wp2_with fail
          go_loopw [143] (fun idx wr => ∃ j:Nat,j≤d∧idx = .int .i64 j∧Hid (OwnV 306 w0.heap.size wr g cap vs)∧Ext w0 wr) (fun idx _=>d-(intOf idx).toNat)
          case atStart=>exact ⟨0,by omega,by go_num,HO4,hE5⟩
          case round =>
           clear HO4 hE5
           obtain ⟨j,hj,rfl,HO,hE⟩:=hrel
           generalize wr=Q at *
           by_cases hjl:j<d
           ·have hji:(j:Int)<(d:Int):=by omega
            have hjN:(j:Int)<(L:Int):=by omega
            obtain ⟨bj,oj,cj,a1,a2,_⟩:=Hrow.out Q HO.out hE j c (by omega) hcn
            obtain ⟨bd,od,cd,c1,c2,_⟩:=Hrow.out Q HO.out hE d c hdl hcn
            obtain ⟨z,hz⟩ : ∃ z,z=eM K j c:=⟨_,rfl⟩
            have hzb:=Hab.out j hjl
            have Hzl:=Lib.hid (show nd z<LIM by rw [hz]; exact Hb.out j c)
            rw [← hz] at a2 hzb
            rw [← Hy.out] at c2
            have k1:=cell_regrown a1
            have k2:=cell_regrown a2
            have k3:=cell_regrown c1
            have k4:=cell_regrown c2
            have hdm:=fun W (h:Ext Q W)=>DivMod_any (a:=z) (b:=y) (w:=W) Hzl.out Hyl.out Hy1.out (HL.out.ext (hE.trans h))
            rw [show z.fdiv y=0 by rw [Int.fdiv_eq_ediv_of_nonneg _ (by omega)]; exact Int.ediv_eq_zero_of_lt hzb.1 hzb.2] at hdm
            have bD:=Lib.hid (quietC (w:=Q) (fun W h=>hdm W h))
            clear hdm hity hz hzb
            go_wp2_with fail
            refine wp_region_quiet_below (by kernel_rfl) (by kernel_rfl) ?_
            repeat (quiet_step (exact bD.out _ _))
            refine wpQuiet_nil ?_
            intro _ hw'
            obtain ⟨⟨dq,osq⟩,hw''⟩:=hw'
            subst hw''
            have hE6:=ext_regrown Q dq osq
            have m3:=k1 dq osq
            have m4:=k3 dq osq
            clear bD k1 k2 k3 k4
            generalize hW6:grow (redrawn _ _) _=W6 at *
            have n3:=cell_regrown m3
            have n4:=cell_regrown m4
            clear hW6 m3 m4
            go_wp2_with fail
            refine wp_region_quiet_tail 9 (by kernel_rfl) (by kernel_rfl) ?_
            simp only [List.take_succ_cons,List.take_zero,List.drop_succ_cons,List.drop_zero]
            repeat (quiet_step (fail))
            refine wpQuiet_nil ?_
            intro _ hw'
            obtain ⟨⟨dq,osq⟩,hw''⟩:=hw'
            subst hw''
            have hE7:=hE6.trans (ext_regrown _ dq osq)
            clear n3 n4
            generalize hW7:grow (redrawn _ _) _=W7 at *
            clear hW7
            go_wp2_with fail
            refine lless_zero.mono ?_
            rintro e W8 ⟨rfl,hE8⟩
            have hE9:=hE7.trans hE8
            have HO9:=Lib.hid (HO.out.ext hE9)
            have hEE:=hE.trans hE9
            go_wp2_with fail
            go_roundw
            case rel=>exact ⟨j+1,by omega,by go_num,HO9,hEE⟩
            case measure=>simp [intOf] <;> omega
           ·have hje:j=d:=by omega
            subst hje
            go_wp2_with fail
            go_roundw
            case rel=>exact ⟨c+1,j+1,by omega,by omega,by go_num,by go_num,Hlo2,Hhi2,HO,hE⟩
            case measure=>simp [intOf] <;> omega
   ·have hde:d=L:=by omega
    have hdi : ¬ (d:Int)<(L:Int):=by omega
    subst hde
    go_wp2_with fail
    go_ret
    exact ⟨rfl,HO.out,hE⟩
  ·have hce:c=n:=by omega
   have hci : ¬ (c:Int)<(n:Int):=by omega
   have hde:d=L:=by
    rcases Nat.lt_or_ge d L with h | h
    ·have h1:=Hhi.out d (Nat.le_refl _) h
     have h2:=Hfin.out d h
     omega
    ·omega
   subst hde
   go_wp2_with fail
   go_ret
   exact ⟨rfl,HO.out,hE⟩
set_option maxHeartbeats 1000000 in
theorem index_llead {w:World} {sa:Option Addr} {gb go cap:Nat} {vs:List Value} {p:Nat→Bool} {k:Int} (hS:Sl w sa gb go vs) (hl:vs.length≤1000000)
  (hF : ∀ i (h:i<vs.length) W,Ext w W→Calls Tryz.prog 311 #[vs[i]] W fun e w'=>e = .returned (.bool (p i))∧Ext W w') (hk:IxR p vs.length k) :
  Calls Tryz.prog 310 #[.slice sa vs.length cap,.func (.func 311) #[] #[]] w fun e w'=>e = .returned (.int .i64 k)∧Ext w w':=by
 have HF:=Lib.hid hF
 have HK:=Lib.hid hk
 have HS:=Lib.hid hS
 clear hF hk hS
 go_enter Tryz.func310,Tryz.ntmps310
 go_wp2_with fail
 go_loopw [8] (fun idx wr => ∃ i:Nat,i≤vs.length∧idx = .int .i64 i∧Hid (∀ j,j<i→p j=false)∧Ext w wr) (fun idx _=>vs.length-(intOf idx).toNat)
 case atStart=>exact ⟨0,by omega,by go_num,Lib.hid (fun j h=>by omega),Ext.refl _⟩
 case round =>
  obtain ⟨i,hi,rfl,Hp,hE⟩:=hrel
  generalize wr=X at *
  by_cases hlt:i<vs.length
  ·have hii:(i:Int)<(vs.length:Int):=by omega
   obtain ⟨u,hu⟩ : ∃ u,u=vs[i]:=⟨_,rfl⟩
   have hc:=hE.cell (HS.out.cell i u (by rw [hu]; exact List.getElem?_eq_getElem hlt))
   obtain rfl:=HS.out.addr (by omega)
   have hf:=HF.out i hlt X hE
   rw [← hu] at hf
   have Hf:=Lib.hid hf
   clear hf hu
   cases hpi:p i
   ·rw [hpi] at Hf
    have Hpi:=Lib.hid hpi
    clear hpi
    go_wp2_with fail
    refine Hf.out.mono ?_
    rintro e W ⟨rfl,hE2⟩
    go_wp2_with fail
    go_roundw
    case rel=>exact ⟨i+1,by omega,by go_num,Lib.hid (fun j hj=>by
     by_cases e:j=i
     ·subst e; exact Hpi.out
     ·exact Hp.out j (by omega)),hE.trans hE2⟩
    case measure=>simp [intOf] <;> omega
   ·rw [hpi] at Hf
    have Hki:=Lib.hid (IxR_at HK.out hlt hpi Hp.out)
    clear hpi
    go_wp2_with fail
    refine Hf.out.mono ?_
    rintro e W ⟨rfl,hE2⟩
    go_wp2_with fail
    go_ret
    exact ⟨by rw [Hki.out]; rfl,hE.trans hE2⟩
  ·have Hki:=Lib.hid (IxR_no HK.out (fun j hj=>Hp.out j (by omega)))
   go_wp2_with fail
   go_ret
   exact ⟨by rw [Hki.out]; rfl,hE⟩
theorem lleadC_any (z:Int) (w:World):Calls Tryz.prog 311 #[I z] w fun e w'=>e = .returned (.bool (decide (z≠0)))∧Ext w w':=by
 have hitz:(Lib.itoa z==[48])=decide (z=0):=itoa_eq_zero z
 by_cases h:z=0
 ·rw [decide_eq_true h] at hitz
  have hb:decide (z≠0)=false:=decide_eq_false (by simpa using h)
  rw [hb]
  clear h hb
  go_enter Tryz.func311,Tryz.ntmps311
  go_wp2
  go_ret
  exact ⟨rfl,Ext.refl _⟩
 ·rw [decide_eq_false h] at hitz
  have hb:decide (z≠0)=true:=decide_eq_true h
  rw [hb]
  have hitz2:(Lib.itoa z != [48])=true:=by simp [bne,hitz]
  clear h hb
  go_enter Tryz.func311,Tryz.ntmps311
  go_wp2
  go_ret
  exact ⟨rfl,Ext.refl _⟩
theorem llead_any {w:World} {sa:Option Addr} {gb go cap:Nat} {l:List Int} (hS:Sl w sa gb go (ss l)) (hl:l.length≤1000000) :
  Calls Tryz.prog 287 #[.slice sa l.length cap] w fun e w'=>e = .returned (.int .i64 (pvI l))∧Ext w w':=by
 have hix:=index_llead (cap:=cap) (p:=fun j=>decide (l.getD j 0≠0)) (k:=pvI l) (w:=w) hS (by rw [ss_length]; exact hl) (fun j hj W hW=>by
  have hj':j<l.length:=by simpa using hj
  have e:(ss l)[j]=I (l.getD j 0):=by rw [getD_get hj']; simp [ss]
  rw [e]; exact lleadC_any _ W) (by rw [ss_length]; exact pvI_ix l)
 rw [ss_length] at hix
 have Hix:=Lib.hid hix
 clear hix hS
 generalize pvI l=p at *
 go_enter Tryz.func287,Tryz.ntmps287
 go_wp2_with fail
 refine Hix.out.mono ?_
 rintro e w1 ⟨rfl,hE1⟩
 go_wp2_with fail
 go_ret
 exact ⟨rfl,hE1⟩
end Go.Proofs.YtjnpakablgommaaGreatDoor
