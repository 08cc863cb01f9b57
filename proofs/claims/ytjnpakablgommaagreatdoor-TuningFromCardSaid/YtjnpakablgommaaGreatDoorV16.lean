/- Part 16 of the proof of the claim: contracts of the functions that it reaches, and plain laws; no condition. -/
import Derived.Test.YtjnpakablgommaaGreatDoorV15
set_option maxRecDepth 100000
namespace Go.Proofs.YtjnpakablgommaaGreatDoor
open Go.RowKit Go.Sort
theorem Tryz.infoInts:(Tryz.prog.info? 144).map (fun i=>(i.zero,i.size,i.bytes))=some (some (.slice none 0 0),1,24):=by kernel_rfl
def sw2 {α:Type} (l:List α) (d:α) (i j:Nat):List α:=(l.set i (l.getD j d)).set j (l.getD i d)
@[simp] theorem sw2_length {α:Type} (l:List α) (d:α) (i j:Nat):(sw2 l d i j).length=l.length:=by simp [sw2]
theorem sw2_getD {α:Type} (l:List α) (d:α) {i j:Nat} (hi:i<l.length) (hj:j<l.length) (t:Nat) (e:α):(sw2 l d i j).getD t e=if t=j then l.getD i d else if t=i then l.getD j d else l.getD t e:=by
 unfold sw2
 rw [getD_set _ _ _ _ _ (by simpa using hj),getD_set _ _ _ _ _ hi]
theorem sw2_get {α:Type} (l:List α) (d:α) {i j:Nat} (hi:i<l.length) (hj:j<l.length) {t:Nat} (ht:t<(sw2 l d i j).length):(sw2 l d i j)[t]=l[sg i j t]'(sg_lt hi hj (by simpa using ht)):=by
 have:=sw2_getD l d hi hj t d
 rw [getD_get ht] at this
 rw [this]
 unfold sg
 split
 ·rw [getD_get hi]
 ·split
  ·rw [getD_get hj]
  ·rw [getD_get (by simpa using ht)]
def hdV:List (Nat×Nat)→Mx→List Value
 | a::ad,r::F=>xv r.length a.1 a.2::hdV ad F
 | _,_=>[]
theorem hdV_length : ∀ (ad:List (Nat×Nat)) (F:Mx),ad.length=F.length→(hdV ad F).length=F.length
 | [],[],_=>rfl
 | [],_::_,h=>by simp at h
 | _::_,[],h=>by simp at h
 | a::ad,r::F,h=>by simp [hdV,hdV_length ad F (by simpa using h)]
theorem hdV_get : ∀ (ad:List (Nat×Nat)) (F:Mx) (i:Nat) (h:i<ad.length) (h2:i<F.length),(hdV ad F)[i]? = some (xv F[i].length ad[i].1 ad[i].2)
 | a::ad,r::F,0,_,_=>rfl
 | a::ad,r::F,i+1,h,h2=>by simpa [hdV] using hdV_get ad F i (by simpa using h) (by simpa using h2)
 | [],_,i,h,_=>by simp at h
 | _::_,[],i,_,h=>by simp at h
theorem hdV_set : ∀ (ad:List (Nat×Nat)) (F:Mx) (i:Nat) (a:Nat×Nat) (r:List Int),hdV (ad.set i a) (F.set i r)=(hdV ad F).set i (xv r.length a.1 a.2)
 | [],[],i,a,r=>by simp [hdV]
 | [],_::_,i,a,r=>by simp [hdV]
 | b::ad,[],i,a,r=>by cases i <;> simp [hdV]
 | b::ad,s::F,0,a,r=>by simp [hdV]
 | b::ad,s::F,i+1,a,r=>by simp [hdV,hdV_set ad F i a r]
theorem hdV_snoc : ∀ (ad:List (Nat×Nat)) (F:Mx) (a:Nat×Nat) (r:List Int),ad.length=F.length→hdV (ad++[a]) (F++[r])=hdV ad F++[xv r.length a.1 a.2]
 | [],[],a,r,_=>rfl
 | [],_::_,a,r,h=>by simp at h
 | _::_,[],a,r,h=>by simp at h
 | b::ad,s::F,a,r,h=>by simp [hdV,hdV_snoc ad F a r (by simpa using h)]
structure GrX (B:Nat) (w:World) (v:Value) (F:Mx) (ad:List (Nat×Nat)):Prop where
 len:ad.length=F.length
 own:w.ownsRow B 144 1 v F.length (hdV ad F)
 row : ∀ i (h:i<F.length) (h':i<ad.length),0<F[i].length→OwnV 79 B w ad[i].1 ad[i].2 (ss F[i])
 dis : ∀ i j (hi:i<ad.length) (hj:j<ad.length) (h:i<F.length) (h':j<F.length),0<F[i].length→0<F[j].length→i≠j→ad[i].1≠ad[j].1
theorem GrX.nil (B:Nat) (w:World):GrX B w (.slice none 0 0) [] [] :=
 ⟨rfl,⟨rfl,.inl ⟨rfl,rfl⟩⟩,(fun i h=>by simp at h),(fun i j h=>by simp at h)⟩
theorem GrX.ext {B:Nat} {w w':World} {v:Value} {F:Mx} {ad:List (Nat×Nat)} (h:GrX B w v F ad) (he:Ext w w'):GrX B w' v F ad :=
 ⟨h.len,ownsRow_ext h.own he,fun i a b c=>(h.row i a b c).ext he,h.dis⟩
theorem GrX.mono {B B':Nat} {w:World} {v:Value} {F:Mx} {ad:List (Nat×Nat)} (h:GrX B w v F ad) (hB:B'≤B):GrX B' w v F ad :=
 ⟨h.len,ownsRow_mono h.own hB,fun i a b c=>(h.row i a b c).mono hB,h.dis⟩
theorem GrX.shape {B:Nat} {w:World} {v:Value} {F:Mx} {ad:List (Nat×Nat)} (h:GrX B w v F ad) : ∃ ga cap,v = .slice ga F.length cap∧F.length≤cap∧(0<F.length → ∃ g,ga=some ⟨g,0,none⟩):=by
 rcases h.own.2 with ⟨rfl,h0⟩ | ⟨g,cap,cur,rfl,hb,hg,hn,hm,hs,ht⟩
 ·rw [h0]; exact ⟨none,0,rfl,Nat.le_refl _,fun h=>by omega⟩
 ·exact ⟨_,cap,rfl,hn,fun _=>⟨g,rfl⟩⟩
theorem GrX.outer {B:Nat} {w:World} {g cap:Nat} {F:Mx} {ad:List (Nat×Nat)} (h:GrX B w (slv g F.length cap) F ad):OwnV 144 B w g cap (hdV ad F):=by
 unfold OwnV; rw [hdV_length _ _ h.len]; exact h.own
theorem ne_outer {B B':Nat} {w:World} {g cap gx cx:Nat} {xs ys:List Value} (h:OwnV 144 B w g cap xs) (h':OwnV 79 B' w gx cx ys):gx≠g:=by
 intro e
 exact own_ne (u:=slv gx ys.length cx) (v:=slv g xs.length cap) h' h (by decide) (g:=gx) rfl (by rw [e]; rfl)
theorem GrX.at {B:Nat} {w:World} {g cap n i:Nat} {F:Mx} {ad:List (Nat×Nat)} (h:GrX B w (slv g F.length cap) F ad) (hR:Rect n F) (hn:0<n) (hi:i<F.length) :
  ∃ gx cx,ad[i]? = some (gx,cx)∧w.cell? ⟨g,i,none⟩=some (slv gx n cx)∧OwnV 79 B w gx cx (ss (F.getD i []))∧gx≠g∧(F.getD i []).length=n:=by
 have hi':i<ad.length:=by rw [h.len]; exact hi
 have hl:F[i].length=n:=hR _ (List.getElem_mem hi)
 have hO:=h.row i hi hi' (by omega)
 refine ⟨ad[i].1,ad[i].2,by rw [List.getElem?_eq_getElem hi'],?_,?_,ne_outer h.outer hO,by rw [getD_get hi]; exact hl⟩
 ·have hg:=hdV_get ad F i hi' hi
  obtain ⟨hlt,he⟩:=List.getElem?_eq_some_iff.1 hg
  rw [h.outer.cell (j:=i) hlt,he,hl,xv_pos hn]
 ·rw [getD_get hi]; exact hO
theorem GrX.wrote {B:Nat} {w w':World} {g cap i gx cx:Nat} {F:Mx} {ad:List (Nat×Nat)} {r:List Int} (h:GrX B w (slv g F.length cap) F ad) (hi:i<F.length) (ha:ad[i]? = some (gx,cx)) (hr:r.length=(F.getD i []).length) (hr0:0<r.length)
  (hO:OwnV 79 B w' gx cx (ss r)) (hC:Chg (fun k=>k=gx) w w'):GrX B w' (slv g F.length cap) (F.set i r) ad:=by
 have hi':i<ad.length:=by rw [h.len]; exact hi
 rw [getD_get hi] at hr
 rw [List.getElem?_eq_getElem hi'] at ha
 have ea:=Option.some.inj ha
 have hOi:=h.row i hi hi' (by omega)
 have hg:g≠gx:=by
  have:=ne_outer h.outer hOi
  rw [ea] at this; exact Ne.symm this
 have hOut:=hC.own hg h.outer
 have hh:hdV ad (F.set i r)=hdV ad F:=by
  have e:ad=ad.set i ad[i]:=(List.set_getElem_self hi').symm
  have:=hdV_set ad F i ad[i] r
  rw [← e] at this
  rw [this]
  have hg2:=hdV_get ad F i hi' hi
  obtain ⟨hlt,he⟩:=List.getElem?_eq_some_iff.1 hg2
  rw [hr, ← he,List.set_getElem_self]
 refine ⟨by rw [List.length_set]; exact h.len,?_,fun j hj hj' hj0 => ?_,fun j k hj hk hj2 hk2 hj0 hk0 hjk => ?_⟩
 ·unfold OwnV at hOut
  rw [hdV_length _ _ h.len] at hOut
  rw [List.length_set,hh]; exact hOut
 ·rw [List.length_set] at hj
  by_cases hij:i=j
  ·subst hij; simp only [List.getElem_set_self]; rw [ea]; exact hO
  ·simp only [List.getElem_set_ne hij] at hj0 ⊢
   have:=h.dis j i hj' hi' hj hi hj0 (by omega) (Ne.symm hij)
   rw [ea] at this
   exact hC.own this (h.row j hj hj' hj0)
 ·rw [List.length_set] at hj2 hk2
  refine h.dis j k hj hk hj2 hk2 ?_ ?_ hjk
  ·by_cases hij:i=j
   ·subst hij; omega
   ·simpa only [List.getElem_set_ne hij] using hj0
  ·by_cases hij:i=k
   ·subst hij; omega
   ·simpa only [List.getElem_set_ne hij] using hk0
theorem GrX.swapped {B:Nat} {w:World} {g cap n i j gi ci gj cj:Nat} {F:Mx} {ad:List (Nat×Nat)} (h:GrX B w (slv g F.length cap) F ad) (hR:Rect n F) (hn:0<n) (hi:i<F.length) (hj:j<F.length) (hai:ad[i]? = some (gi,ci)) (haj:ad[j]? = some (gj,cj)) :
  GrX B ((w.setCell ⟨g,i,none⟩ (slv gj n cj)).setCell ⟨g,j,none⟩ (slv gi n ci)) (slv g F.length cap) (sw2 F [] i j) (sw2 ad (0,0) i j)
   ∧ w.grownBy ((w.setCell ⟨g,i,none⟩ (slv gj n cj)).setCell ⟨g,j,none⟩ (slv gi n ci)) (some g)∧Rect n (sw2 F [] i j):=by
 have hi':i<ad.length:=by rw [h.len]; exact hi
 have hj':j<ad.length:=by rw [h.len]; exact hj
 have h1:=h.outer.set i (slv gj n cj)
 have h2:=h1.1.set j (slv gi n ci)
 have hG:=grown_trans h1.2 h2.2
 have ei:ad.getD i (0,0)=(gi,ci):=by rw [List.getD_eq_getElem?_getD,hai]; rfl
 have ej:ad.getD j (0,0)=(gj,cj):=by rw [List.getD_eq_getElem?_getD,haj]; rfl
 have fi:(F.getD i []).length=n:=by rw [getD_get hi]; exact hR _ (List.getElem_mem hi)
 have fj:(F.getD j []).length=n:=by rw [getD_get hj]; exact hR _ (List.getElem_mem hj)
 have eh:hdV (sw2 ad (0,0) i j) (sw2 F [] i j)=((hdV ad F).set i (slv gj n cj)).set j (slv gi n ci):=by
  unfold sw2
  rw [hdV_set,hdV_set,ei,ej,fi,fj,xv_pos hn,xv_pos hn]
 have hR2:Rect n (sw2 F [] i j):=fun s hs=>by
  obtain ⟨t,ht,rfl⟩:=List.getElem_of_mem hs
  rw [sw2_get F [] hi hj ht]
  exact hR _ (List.getElem_mem _)
 refine ⟨⟨by simp [h.len],?_,fun t ht ht' ht0 => ?_,fun t u ht hu ht2 hu2 ht0 hu0 htu => ?_⟩,hG,hR2⟩
 ·have:=h2.1
  unfold OwnV at this
  rw [← eh,hdV_length _ _ (by simp [h.len]),sw2_length] at this
  rw [sw2_length]; exact this
 ·rw [sw2_get F [] hi hj ht] at ht0 ⊢
  rw [sw2_get ad (0,0) hi' hj' ht']
  have ht2:t<F.length:=by simpa using ht
  have hO:=h.row (sg i j t) (sg_lt hi hj ht2) (sg_lt hi' hj' (by simpa using ht')) ht0
  exact hO.other hG (ne_outer h.outer hO)
 ·rw [sw2_get F [] hi hj ht2] at ht0
  rw [sw2_get F [] hi hj hu2] at hu0
  rw [sw2_get ad (0,0) hi' hj' ht,sw2_get ad (0,0) hi' hj' hu]
  exact h.dis _ _ _ _ (sg_lt hi hj (by simpa using ht2)) (sg_lt hi hj (by simpa using hu2)) ht0 hu0 (fun e=>htu (sg_inj e))
theorem GrX.stored {B:Nat} {w:World} {g cap i gx cx:Nat} {F:Mx} {ad:List (Nat×Nat)} {r:List Int} (h:GrX B w (slv g F.length cap) F ad) (hi:i<F.length) (hr0:0<r.length) (hO:OwnV 79 B w gx cx (ss r))
  (hne : ∀ j (_:j<ad.length) (h:j<F.length),0<F[j].length→j≠i→ad[j].1≠gx) :
  GrX B (w.setCell ⟨g,i,none⟩ (slv gx r.length cx)) (slv g F.length cap) (F.set i r) (ad.set i (gx,cx))∧w.grownBy (w.setCell ⟨g,i,none⟩ (slv gx r.length cx)) (some g):=by
 have hi':i<ad.length:=by rw [h.len]; exact hi
 have h1:=h.outer.set i (slv gx r.length cx)
 refine ⟨⟨by simp [h.len],?_,fun j hj hj' hj0 => ?_,fun j k hj hk hj2 hk2 hj0 hk0 hjk => ?_⟩,h1.2⟩
 ·have:=h1.1
  unfold OwnV at this
  rw [show slv gx r.length cx=xv r.length (gx,cx).1 (gx,cx).2 from (xv_pos hr0 _ _).symm, ← hdV_set,hdV_length _ _ (by simp [h.len]),List.length_set] at this
  rw [List.length_set,show slv gx r.length cx=xv r.length (gx,cx).1 (gx,cx).2 from (xv_pos hr0 _ _).symm]; exact this
 ·rw [List.length_set] at hj hj'
  by_cases hij:i=j
  ·subst hij; simp only [List.getElem_set_self]; exact hO.other h1.2 (ne_outer h.outer hO)
  ·simp only [List.getElem_set_ne hij] at hj0 ⊢
   have hOj:=h.row j hj hj' hj0
   exact hOj.other h1.2 (ne_outer h.outer hOj)
 ·rw [List.length_set] at hj hk hj2 hk2
  by_cases hij:i=j
  ·subst hij
   simp only [List.getElem_set_ne hjk] at hk0
   simp only [List.getElem_set_self,List.getElem_set_ne hjk]
   exact Ne.symm (hne k hk hk2 hk0 (Ne.symm hjk))
  ·simp only [List.getElem_set_ne hij] at hj0 ⊢
   by_cases hik:i=k
   ·subst hik
    simp only [List.getElem_set_self]
    exact hne j hj hj2 hj0 hjk
   ·simp only [List.getElem_set_ne hik] at hk0 ⊢
    exact h.dis j k hj hk hj2 hk2 hj0 hk0 hjk
def IntsR (w:World) (v:Value) (l:List Int):Prop := ∃ sa gb go cap,v = .slice sa l.length cap∧l.length≤cap∧Sl w sa gb go (ss l)
def GridR (w:World) (v:Value) (M:Mx):Prop := ∃ sa gb go cap vs,v = .slice sa M.length cap∧M.length≤cap∧vs.length=M.length∧Sl w sa gb go vs ∧ ∀ i (h:i<M.length) (h':i<vs.length),IntsR w vs[i] M[i]
theorem IntsR.ext {w w':World} {v:Value} {l:List Int} (h:IntsR w v l) (he:Ext w w'):IntsR w' v l:=by
 obtain ⟨sa,gb,go,cap,h1,h2,h3⟩:=h; exact ⟨sa,gb,go,cap,h1,h2,h3.ext he⟩
theorem GridR.ext {w w':World} {v:Value} {M:Mx} (h:GridR w v M) (he:Ext w w'):GridR w' v M:=by
 obtain ⟨sa,gb,go,cap,vs,h1,h2,h3,h4,h5⟩:=h
 exact ⟨sa,gb,go,cap,vs,h1,h2,h3,h4.ext he,fun i a b=>(h5 i a b).ext he⟩
theorem OwnV.intsR {B:Nat} {w:World} {g cap n:Nat} {l:List Int} (h:OwnV 79 B w g cap (ss l)) (hn:l.length=n):IntsR w (slv g n cap) l:=by
 subst hn
 exact ⟨_,g,0,cap,rfl,by have:=h.cap; simpa using this,h.sl⟩
theorem GrX.gridR {B:Nat} {w:World} {v:Value} {F:Mx} {ad:List (Nat×Nat)} (h:GrX B w v F ad):GridR w v F:=by
 have hr : ∀ i (_:i<F.length) (h':i<(hdV ad F).length),IntsR w (hdV ad F)[i] F[i]:=fun i a b=>by
  have hi':i<ad.length:=by rw [h.len]; exact a
  have hg:=hdV_get ad F i hi' a
  obtain ⟨_,he⟩:=List.getElem?_eq_some_iff.1 hg
  rw [he]
  rcases Nat.eq_zero_or_pos F[i].length with hn | hn
  ·rw [List.eq_nil_of_length_eq_zero hn]
   exact ⟨none,0,0,0,rfl,Nat.le_refl _,Sl.nil _ _ _ _⟩
  ·rw [xv_pos hn]; exact (h.row i a hi' hn).intsR rfl
 rcases h.own.2 with ⟨rfl,h0⟩ | ⟨g,cap,cur,rfl,hb,hg,hn,hm,hs,ht⟩
 ·have hF:F=[]:=List.eq_nil_of_length_eq_zero h0
  subst hF
  exact ⟨none,0,0,0,[],rfl,Nat.le_refl _,rfl,Sl.nil _ _ _ _,fun i h=>by simp at h⟩
 ·exact ⟨_,g,0,cap,hdV ad F,rfl,hn,hdV_length _ _ h.len,h.outer.sl,hr⟩
theorem GridR.row {w:World} {sa:Option Addr} {gb go:Nat} {vs:List Value} {M:Mx} (hS:Sl w sa gb go vs) (hl:vs.length=M.length) (hr : ∀ i (h:i<M.length) (h':i<vs.length),IntsR w vs[i] M[i]) {i:Nat} (hi:i<M.length) :
  ∃ sr br or cr,w.cell? ⟨gb,go+i,none⟩=some (.slice sr M[i].length cr)∧M[i].length≤cr∧Sl w sr br or (ss M[i]):=by
 obtain ⟨sr,br,or,cr,e,h1,h2⟩:=hr i hi (by omega)
 exact ⟨sr,br,or,cr,by rw [← e]; exact hS.cell i _ (List.getElem?_eq_getElem (by omega)),h1,h2⟩
theorem snoc_at (F:Mx) (r:List Int) {j:Nat} (h:j<(F++[r]).length) (e:j=F.length):(F++[r])[j]=r:=by subst e; simp
section
variable {w:World} {ops:Array Oper} {rest:List Oper} {o:Oper} {a:Act} {Q:Exit→Act→World→Prop}
theorem app_grid (hgd:o.guard=none) (s x:Operand) (ho:o.op = .call { callee := .builtin .append,args := #[s,x],argTypes := #[250,250] })
  {B:Nat} {v:Value} {F:Mx} {r:List Int} {ad:List (Nat×Nat)} {g0 c0:Nat} (hs:a.eval s=v) (hown:GrX B w v F ad) {b:Nat} (hx:a.eval x = .slice (some ⟨b,0,none⟩) 1 1) (hc:w.cell? ⟨b,0,none⟩=some (xv r.length g0 c0)) (hr:0<r.length→OwnV 79 B w g0 c0 (ss r)) (hnew:0<r.length → ∀ i (h:i<ad.length) (h':i<F.length),0<F[i].length→ad[i].1≠g0) (hl:F.length≤1000000000) (hB:B≤w.heap.size)
  (h : ∀ g cap w',GrX B w' (slv g (F.length+1) cap) (F++[r]) (ad++[(g0,c0)])→Below B w w'→w.grownBy w' v.ownBlock→wpList Tryz.prog ops Q rest (a.put o.dst (slv g (F.length+1) cap)) w'):wpList Tryz.prog ops Q (o::rest) a w:=by
 obtain ⟨i0,hi,hz0,hz1,hz2⟩:=info_parts Tryz.infoInts
 obtain ⟨hlen,h2,h3,hdis⟩:=hown
 refine wpList_append_lies w hgd s x 250 ho B 144 i0 _ 1 24 Tryz.underlying250 hi hz0 hz1 hz2 rfl (by omega) v F.length (hdV ad F) hs h2 ⟨b,0,none⟩ 1 1 [xv r.length g0 c0] hx rfl ?_ ?_ (by omega) (by unfold maxLen; omega) (by omega) hB w.heap.size rfl ?_
 ·intro j u hj
  have:j=0:=by have:=(List.getElem?_eq_some_iff.1 hj).1; simp at this; omega
  subst this
  simp only [List.getElem?_cons_zero,Option.some.injEq] at hj
  subst hj
  simpa [Addr.add_lit] using hc
 ·intro u hu
  simp only [List.mem_cons,List.not_mem_nil,or_false] at hu
  subst hu; unfold xv; split <;> rfl
 ·intro g cap w' k1 k2 k3 k4
  have hkeep : ∀ {u cu:Nat} {l:List Int},OwnV 79 B w u cu (ss l)→OwnV 79 B w' u cu (ss l):=fun {u cu l} hu=>by
   have h5:w.ownsRow B 79 1 (slv u (ss l).length cu) (ss l).length (ss l):=hu
   exact own_kept h5 h2 (by decide) k2
  refine h g cap w' ⟨by simp [hlen],?_,fun i hi1 hi2 hi0 => ?_,fun i j hi1 hj1 hi2 hj2 hi0 hj0 hij => ?_⟩ (Below.grown (Below.refl _ _) k2 hB (fun q hq=>(World.ownsRow.lt h2 q hq).1)) k2
  ·rw [List.length_append,hdV_snoc ad F (g0,c0) r hlen]; exact k1
  ·rcases Nat.lt_or_ge i F.length with hlt | hge
   ·simp only [List.getElem_append_left hlt,List.getElem_append_left (show i<ad.length by omega)] at hi0 ⊢
    exact hkeep (h3 i hlt (by omega) hi0)
   ·have hie:i=F.length:=by simp at hi1; omega
    subst hie
    simp only [List.getElem_append_right (Nat.le_refl F.length),List.getElem_append_right (show ad.length≤F.length by omega),hlen,Nat.sub_self,List.getElem_cons_zero] at hi0 ⊢
    exact hkeep (hr hi0)
  ·rw [List.length_append,List.length_singleton] at hi1 hj1 hi2 hj2
   rcases Nat.lt_or_ge i ad.length with hil | hig
   ·rw [List.getElem_append_left hil]
    rw [List.getElem_append_left (show i<F.length by omega)] at hi0
    rcases Nat.lt_or_ge j ad.length with hlt | hge
    ·rw [List.getElem_append_left hlt]
     rw [List.getElem_append_left (show j<F.length by omega)] at hj0
     exact hdis i j (by omega) hlt (by omega) (by omega) hi0 hj0 hij
    ·have hje:j=ad.length:=by omega
     subst hje
     rw [List.getElem_append_right (Nat.le_refl _)]
     rw [snoc_at F r _ hlen] at hj0
     simp only [Nat.sub_self,List.getElem_cons_zero]
     exact hnew hj0 i hil (by omega) hi0
   ·have hie:i=ad.length:=by omega
    subst hie
    rw [List.getElem_append_right (Nat.le_refl _),List.getElem_append_left (show j<ad.length by omega)]
    rw [List.getElem_append_left (show j<F.length by omega)] at hj0
    rw [snoc_at F r _ hlen] at hi0
    simp only [Nat.sub_self,List.getElem_cons_zero]
    exact Ne.symm (hnew hi0 j (by omega) (by omega) hj0)
end
set_option maxHeartbeats 2000000 in
theorem stake_any {w0 w:World} {ga ca gb ob cb:Nat} {sb:Option Addr} {k:Int} {a b:List Int} (hO:OwnV 79 w0.heap.size w ga ca (ss a)) (hB:Sl w sb gb ob (ss b)) (hne:gb≠ga)
  (hlen:b.length=a.length) (hl:a.length≤1000000)
  (hbig : ∀ (i:Nat) (h:i<b.length) (h':i<a.length),nd a[i]<LIM∧nd (k*b[i])<LIM∧nd k+nd b[i]≤LIM) (hL:Laid w0) (hE0:Ext w0 w) :
  Calls Tryz.prog 243 #[slv ga a.length ca,.slice sb a.length cb,I k] w fun e w'=>e = .returned (.tuple #[])∧OwnV 79 w0.heap.size w' ga ca (ss (subK k a b))∧w.grownBy w' (some ga):=by
 have hkz:(Lib.itoa k==[48])=decide (k=0):=itoa_eq_zero k
 by_cases hk0:k=0
 ·rw [decide_eq_true hk0] at hkz
  subst hk0
  rw [subK_zero a b (by omega)]
  clear hbig hL hlen hl hB
  go_enter Tryz.func243,Tryz.ntmps243
  go_wp2_with fail
  refine bodyPost_ret (results_none rfl _ _ _) rfl ?_
  exact ⟨rfl,hO,World.grownBy.refl _ _⟩
 ·rw [decide_eq_false hk0] at hkz
  have HL:=Lib.hid hL
  have HB:=Lib.hid hB
  have Hbig:=Lib.hid hbig
  have Hlen:=Lib.hid hlen
  clear hL hB hbig hk0 hlen
  go_enter Tryz.func243,Tryz.ntmps243
  go_wp2_with fail
  go_loopw [11] (fun idx wr => ∃ i:Nat,i≤a.length∧idx = .int .i64 i∧OwnV 79 w0.heap.size wr ga ca (ss (subK k a (b.take i)))∧w.grownBy wr (some ga)) (fun idx _=>a.length-(intOf idx).toNat)
  case atStart=>exact ⟨0,by omega,by go_num,by simpa [subK_nil] using hO,World.grownBy.refl _ _⟩
  case round =>
   obtain ⟨i,hi,rfl,hOr,hG⟩:=hrel
   have hga:=hO.lt.1
   by_cases hlt:i<a.length
   ·have hib:i<b.length:=by rw [Hlen.out]; exact hlt
    obtain ⟨x,hx⟩ : ∃ x,x=a[i]:=⟨_,rfl⟩
    obtain ⟨y,hy⟩ : ∃ y,y=b[i]:=⟨_,rfl⟩
    obtain rfl:=HB.out.addr (by simpa using (by omega:0<b.length))
    have cb:wr.cell? ⟨gb,ob+i,none⟩=some (I y):=by
     refine grown_frozen_cell hG hne ?_
     rw [hy]
     exact HB.out.cell i _ (by simp [ss,hib])
    have ca':wr.cell? ⟨ga,i,none⟩=some (I x):=by
     rw [hOr.cell (by simpa using hlt)]
     simp only [ss,List.getElem_map]
     rw [subK_get k a _ i hlt (by rw [List.length_take]; omega),hx]
    have fa:=hOr.frozen i
    have hEr:Ext w0 wr:=ext_trans_grown hE0 hG hga
    have hstep:=subK_step k a b i hib hlt
    rw [← hx, ← hy] at hstep
    have Hstep:=Lib.hid hstep
    obtain ⟨n1,n2,n3⟩:=Hbig.out i hib hlt
    rw [← hx] at n1
    rw [← hy] at n2 n3
    have hii:(i:Int)<(a.length:Int):=by omega
    have hEr2:=Lib.hid hEr
    have c1:=Lib.hid (quietC (w:=wr) (fun W h=>Mul_any (a:=k) (b:=y) (w:=W) n3 (HL.out.ext (hEr2.out.trans h))))
    have c2:=Lib.hid (quietC (w:=wr) (fun W h=>Sub_any (a:=x) (b:=k*y) (w:=W) n1 n2 (HL.out.ext (hEr2.out.trans h))))
    have k1:=cell_regrown ca'
    have k2:=cell_regrown cb
    clear hx hy hstep n1 n2 n3 hO hEr hib
    go_wp2_with fail
    refine wp_region_quiet_tail 13 (by kernel_rfl) (by kernel_rfl) ?_
    simp only [List.take_succ_cons,List.take_zero,List.drop_succ_cons,List.drop_zero]
    repeat (quiet_step (first | exact c1.out _ _ | exact c2.out _ _))
    refine wpQuiet_nil ?_
    intro _ hw'
    obtain ⟨⟨dq,osq⟩,hw''⟩:=hw'
    subst hw''
    have hE5:=ext_regrown wr dq osq
    have hO5:=hOr.ext hE5
    have d5:=hE5.cell ca'
    clear c1 c2 k1 k2
    generalize grow (redrawn wr dq) osq=w5 at *
    have f5:=hO5.frozen i
    obtain ⟨hO6,hG6⟩:=hO5.set i (I (x-k*y))
    rw [← ss_set, ← Hstep.out] at hO6
    have hG5:=grown_trans hG (grown_trans (grown_ext hE5 (some ga)) hG6)
    clear hE5 hO5 hG6
    go_wp2_with fail
    go_roundw
    case rel=>exact ⟨i+1,by omega,by go_num,hO6,hG5⟩
    case measure=>simp [intOf] <;> omega
   ·go_wp2_with fail
    go_end0
    refine ⟨rfl,?_,hG⟩
    rw [List.take_of_length_le (by rw [Hlen.out]; omega)] at hOr
    exact hOr
def negF (o j:Nat) (l:List Int):List Int:=l.take o++negTo j (l.drop o)
@[simp] theorem negF_length (o j:Nat) (l:List Int):(negF o j l).length=l.length:=by simp [negF]; omega
theorem negF_zero (o:Nat) (l:List Int):negF o 0 l=l:=by rw [negF,negTo_zero,List.take_append_drop]
theorem negF_get {o j n:Nat} {l:List Int} (hl:l.length=o+n) (h:j<n):(negF o j l)[o+j]'(by simp; omega)=l[o+j]:=by
 unfold negF
 rw [List.getElem_append_right (by simp; omega)]
 have e:(List.take o l).length=o:=by simp; omega
 simp only [e,Nat.add_sub_cancel_left]
 rw [negTo_get (by simp; omega),List.getElem_drop]
theorem negF_step {o j n:Nat} {l:List Int} (hl:l.length=o+n) (h:j<n):negF o (j+1) l=(negF o j l).set (o+j) (-l[o+j]):=by
 unfold negF
 have e:(List.take o l).length=o:=by simp; omega
 rw [List.set_append_right _ _ (by omega),e,Nat.add_sub_cancel_left,negTo_step (by simp; omega),List.getElem_drop]
theorem negF_all {o n:Nat} {l:List Int} (hl:l.length=o+n):negF o n l=l.take o++(l.drop o).map (fun z => -z):=by
 unfold negF
 rw [show n=(l.drop o).length by simp; omega,negTo_all]
set_option maxHeartbeats 2000000 in
theorem sturn_part {B:Nat} {w:World} {gx cx o n cp:Nat} {a:List Int} (hX:OwnV 79 B w gx cx (ss a)) (hn:a.length=o+n) (hl:n≤1000000) (hbig : ∀ z∈a,nd z≤LIM) :
  Calls Tryz.prog 189 #[.slice (some ⟨gx,o,none⟩) n cp] w fun e w'=>e = .returned (.tuple #[])∧OwnV 79 B w' gx cx (ss (a.take o++(a.drop o).map fun z => -z))∧w.grownBy w' (some gx):=by
 have Hb:=Lib.hid hbig
 have Hn:=Lib.hid hn
 clear hbig hn
 go_enter Tryz.func189,Tryz.ntmps189
 go_wp2_with fail
 go_loopw [5] (fun jdx wi => ∃ j:Nat,j≤n∧jdx = .int .i64 j∧OwnV 79 B wi gx cx (ss (negF o j a))∧w.grownBy wi (some gx)) (fun jdx _=>n-(intOf jdx).toNat)
 case atStart=>exact ⟨0,by omega,by go_num,by rw [negF_zero]; exact hX,World.grownBy.refl _ _⟩
 case round =>
  obtain ⟨j,hj,rfl,hOj,hG⟩:=hrel
  by_cases hlt:j<n
  ·have hjl:o+j<a.length:=by rw [Hn.out]; omega
   obtain ⟨x,hx⟩ : ∃ x,x=a[o+j]:=⟨_,rfl⟩
   have cj:wr.cell? ⟨gx,o+j,none⟩=some (I x):=by
    rw [hOj.cell (by simpa using hjl)]
    simp only [ss,List.getElem_map]
    rw [negF_get Hn.out hlt,hx]
   have hneg:=Lib.hid (Neg_any (z:=x) (Hb.out x (by rw [hx]; exact List.getElem_mem hjl)))
   have Hst:=Lib.hid (negF_step Hn.out hlt)
   rw [← hx] at Hst
   have hjj:(j:Int)<(n:Int):=by omega
   clear hx hX hjl
   go_wp2_with fail
   refine (hneg.out _).mono ?_
   rintro e w5 ⟨rfl,hE5⟩
   have f5:=(hOj.ext hE5).frozen (o+j)
   have d5:=hE5.cell cj
   obtain ⟨hO6,hG6⟩:=(hOj.ext hE5).set (o+j) (I (-x))
   rw [← ss_set, ← Hst.out] at hO6
   have hG7:=grown_trans hG (grown_trans (grown_ext hE5 (some gx)) hG6)
   clear hE5 hOj hG6 hG
   go_wp2_with fail
   go_roundw
   case rel=>exact ⟨j+1,by omega,by go_num,hO6,hG7⟩
   case measure=>simp [intOf] <;> omega
  ·have hje:j=n:=by omega
   subst hje
   rw [negF_all Hn.out] at hOj
   go_wp2_with fail
   go_end0
   exact ⟨rfl,hOj,hG⟩
theorem sturn_row {B:Nat} {w:World} {gx cx n:Nat} {a:List Int} (hX:OwnV 79 B w gx cx (ss a)) (hn:a.length=n) (hl:n≤1000000) (hbig : ∀ z∈a,nd z≤LIM) :
  Calls Tryz.prog 189 #[slv gx n cx] w fun e w'=>e = .returned (.tuple #[])∧OwnV 79 B w' gx cx (ss (a.map fun z => -z))∧w.grownBy w' (some gx):=by
 have:=sturn_part (o:=0) (cp:=cx) hX (by omega) hl hbig
 simpa using this
theorem Tryz.infoLong:(Tryz.prog.info? 306).map (fun i=>(i.zero,i.size,i.bytes))=some (some (.slice none 0 0),1,24):=by kernel_rfl
structure LrX (B:Nat) (w:World) (v:Value) (F:Mx) (ad:List (Nat×Nat)):Prop where
 len:ad.length=F.length
 own:w.ownsRow B 306 1 v F.length (hdV ad F)
 row : ∀ i (h:i<F.length) (h':i<ad.length),0<F[i].length→OwnV 79 B w ad[i].1 ad[i].2 (ss F[i])
 dis : ∀ i j (hi:i<ad.length) (hj:j<ad.length) (h:i<F.length) (h':j<F.length),0<F[i].length→0<F[j].length→i≠j→ad[i].1≠ad[j].1
theorem LrX.nil (B:Nat) (w:World):LrX B w (.slice none 0 0) [] [] :=
 ⟨rfl,⟨rfl,.inl ⟨rfl,rfl⟩⟩,(fun i h=>by simp at h),(fun i j h=>by simp at h)⟩
theorem LrX.ext {B:Nat} {w w':World} {v:Value} {F:Mx} {ad:List (Nat×Nat)} (h:LrX B w v F ad) (he:Ext w w'):LrX B w' v F ad :=
 ⟨h.len,ownsRow_ext h.own he,fun i a b c=>(h.row i a b c).ext he,h.dis⟩
theorem LrX.mono {B B':Nat} {w:World} {v:Value} {F:Mx} {ad:List (Nat×Nat)} (h:LrX B w v F ad) (hB:B'≤B):LrX B' w v F ad :=
 ⟨h.len,ownsRow_mono h.own hB,fun i a b c=>(h.row i a b c).mono hB,h.dis⟩
theorem LrX.shape {B:Nat} {w:World} {v:Value} {F:Mx} {ad:List (Nat×Nat)} (h:LrX B w v F ad) : ∃ ga cap,v = .slice ga F.length cap∧F.length≤cap∧(0<F.length → ∃ g,ga=some ⟨g,0,none⟩):=by
 rcases h.own.2 with ⟨rfl,h0⟩ | ⟨g,cap,cur,rfl,hb,hg,hn,hm,hs,ht⟩
 ·rw [h0]; exact ⟨none,0,rfl,Nat.le_refl _,fun h=>by omega⟩
 ·exact ⟨_,cap,rfl,hn,fun _=>⟨g,rfl⟩⟩
theorem LrX.outer {B:Nat} {w:World} {g cap:Nat} {F:Mx} {ad:List (Nat×Nat)} (h:LrX B w (slv g F.length cap) F ad):OwnV 306 B w g cap (hdV ad F):=by
 unfold OwnV; rw [hdV_length _ _ h.len]; exact h.own
theorem ne_outerL {B B':Nat} {w:World} {g cap gx cx:Nat} {xs ys:List Value} (h:OwnV 306 B w g cap xs) (h':OwnV 79 B' w gx cx ys):gx≠g:=by
 intro e
 exact own_ne (u:=slv gx ys.length cx) (v:=slv g xs.length cap) h' h (by decide) (g:=gx) rfl (by rw [e]; rfl)
theorem LrX.at {B:Nat} {w:World} {g cap n i:Nat} {F:Mx} {ad:List (Nat×Nat)} (h:LrX B w (slv g F.length cap) F ad) (hR:Rect n F) (hn:0<n) (hi:i<F.length) :
  ∃ gx cx,ad[i]? = some (gx,cx)∧w.cell? ⟨g,i,none⟩=some (slv gx n cx)∧OwnV 79 B w gx cx (ss (F.getD i []))∧gx≠g∧(F.getD i []).length=n:=by
 have hi':i<ad.length:=by rw [h.len]; exact hi
 have hl:F[i].length=n:=hR _ (List.getElem_mem hi)
 have hO:=h.row i hi hi' (by omega)
 refine ⟨ad[i].1,ad[i].2,by rw [List.getElem?_eq_getElem hi'],?_,?_,ne_outerL h.outer hO,by rw [getD_get hi]; exact hl⟩
 ·have hg:=hdV_get ad F i hi' hi
  obtain ⟨hlt,he⟩:=List.getElem?_eq_some_iff.1 hg
  rw [h.outer.cell (j:=i) hlt,he,hl,xv_pos hn]
 ·rw [getD_get hi]; exact hO
theorem LrX.wrote {B:Nat} {w w':World} {g cap i gx cx:Nat} {F:Mx} {ad:List (Nat×Nat)} {r:List Int} (h:LrX B w (slv g F.length cap) F ad) (hi:i<F.length) (ha:ad[i]? = some (gx,cx)) (hr:r.length=(F.getD i []).length) (hr0:0<r.length)
  (hO:OwnV 79 B w' gx cx (ss r)) (hC:Chg (fun k=>k=gx) w w'):LrX B w' (slv g F.length cap) (F.set i r) ad:=by
 have hi':i<ad.length:=by rw [h.len]; exact hi
 rw [getD_get hi] at hr
 rw [List.getElem?_eq_getElem hi'] at ha
 have ea:=Option.some.inj ha
 have hOi:=h.row i hi hi' (by omega)
 have hg:g≠gx:=by
  have:=ne_outerL h.outer hOi
  rw [ea] at this; exact Ne.symm this
 have hOut:=hC.own hg h.outer
 have hh:hdV ad (F.set i r)=hdV ad F:=by
  have e:ad=ad.set i ad[i]:=(List.set_getElem_self hi').symm
  have:=hdV_set ad F i ad[i] r
  rw [← e] at this
  rw [this]
  have hg2:=hdV_get ad F i hi' hi
  obtain ⟨hlt,he⟩:=List.getElem?_eq_some_iff.1 hg2
  rw [hr, ← he,List.set_getElem_self]
 refine ⟨by rw [List.length_set]; exact h.len,?_,fun j hj hj' hj0 => ?_,fun j k hj hk hj2 hk2 hj0 hk0 hjk => ?_⟩
 ·unfold OwnV at hOut
  rw [hdV_length _ _ h.len] at hOut
  rw [List.length_set,hh]; exact hOut
 ·rw [List.length_set] at hj
  by_cases hij:i=j
  ·subst hij; simp only [List.getElem_set_self]; rw [ea]; exact hO
  ·simp only [List.getElem_set_ne hij] at hj0 ⊢
   have:=h.dis j i hj' hi' hj hi hj0 (by omega) (Ne.symm hij)
   rw [ea] at this
   exact hC.own this (h.row j hj hj' hj0)
 ·rw [List.length_set] at hj2 hk2
  refine h.dis j k hj hk hj2 hk2 ?_ ?_ hjk
  ·by_cases hij:i=j
   ·subst hij; omega
   ·simpa only [List.getElem_set_ne hij] using hj0
  ·by_cases hij:i=k
   ·subst hij; omega
   ·simpa only [List.getElem_set_ne hij] using hk0
theorem LrX.swapped {B:Nat} {w:World} {g cap n i j gi ci gj cj:Nat} {F:Mx} {ad:List (Nat×Nat)} (h:LrX B w (slv g F.length cap) F ad) (hR:Rect n F) (hn:0<n) (hi:i<F.length) (hj:j<F.length) (hai:ad[i]? = some (gi,ci)) (haj:ad[j]? = some (gj,cj)) :
  LrX B ((w.setCell ⟨g,i,none⟩ (slv gj n cj)).setCell ⟨g,j,none⟩ (slv gi n ci)) (slv g F.length cap) (sw2 F [] i j) (sw2 ad (0,0) i j)
   ∧ w.grownBy ((w.setCell ⟨g,i,none⟩ (slv gj n cj)).setCell ⟨g,j,none⟩ (slv gi n ci)) (some g)∧Rect n (sw2 F [] i j):=by
 have hi':i<ad.length:=by rw [h.len]; exact hi
 have hj':j<ad.length:=by rw [h.len]; exact hj
 have h1:=h.outer.set i (slv gj n cj)
 have h2:=h1.1.set j (slv gi n ci)
 have hG:=grown_trans h1.2 h2.2
 have ei:ad.getD i (0,0)=(gi,ci):=by rw [List.getD_eq_getElem?_getD,hai]; rfl
 have ej:ad.getD j (0,0)=(gj,cj):=by rw [List.getD_eq_getElem?_getD,haj]; rfl
 have fi:(F.getD i []).length=n:=by rw [getD_get hi]; exact hR _ (List.getElem_mem hi)
 have fj:(F.getD j []).length=n:=by rw [getD_get hj]; exact hR _ (List.getElem_mem hj)
 have eh:hdV (sw2 ad (0,0) i j) (sw2 F [] i j)=((hdV ad F).set i (slv gj n cj)).set j (slv gi n ci):=by
  unfold sw2
  rw [hdV_set,hdV_set,ei,ej,fi,fj,xv_pos hn,xv_pos hn]
 have hR2:Rect n (sw2 F [] i j):=fun s hs=>by
  obtain ⟨t,ht,rfl⟩:=List.getElem_of_mem hs
  rw [sw2_get F [] hi hj ht]
  exact hR _ (List.getElem_mem _)
 refine ⟨⟨by simp [h.len],?_,fun t ht ht' ht0 => ?_,fun t u ht hu ht2 hu2 ht0 hu0 htu => ?_⟩,hG,hR2⟩
 ·have:=h2.1
  unfold OwnV at this
  rw [← eh,hdV_length _ _ (by simp [h.len]),sw2_length] at this
  rw [sw2_length]; exact this
 ·rw [sw2_get F [] hi hj ht] at ht0 ⊢
  rw [sw2_get ad (0,0) hi' hj' ht']
  have ht2:t<F.length:=by simpa using ht
  have hO:=h.row (sg i j t) (sg_lt hi hj ht2) (sg_lt hi' hj' (by simpa using ht')) ht0
  exact hO.other hG (ne_outerL h.outer hO)
 ·rw [sw2_get F [] hi hj ht2] at ht0
  rw [sw2_get F [] hi hj hu2] at hu0
  rw [sw2_get ad (0,0) hi' hj' ht,sw2_get ad (0,0) hi' hj' hu]
  exact h.dis _ _ _ _ (sg_lt hi hj (by simpa using ht2)) (sg_lt hi hj (by simpa using hu2)) ht0 hu0 (fun e=>htu (sg_inj e))
theorem LrX.stored {B:Nat} {w:World} {g cap i gx cx:Nat} {F:Mx} {ad:List (Nat×Nat)} {r:List Int} (h:LrX B w (slv g F.length cap) F ad) (hi:i<F.length) (hr0:0<r.length) (hO:OwnV 79 B w gx cx (ss r))
  (hne : ∀ j (_:j<ad.length) (h:j<F.length),0<F[j].length→j≠i→ad[j].1≠gx) :
  LrX B (w.setCell ⟨g,i,none⟩ (slv gx r.length cx)) (slv g F.length cap) (F.set i r) (ad.set i (gx,cx))∧w.grownBy (w.setCell ⟨g,i,none⟩ (slv gx r.length cx)) (some g):=by
 have hi':i<ad.length:=by rw [h.len]; exact hi
 have h1:=h.outer.set i (slv gx r.length cx)
 refine ⟨⟨by simp [h.len],?_,fun j hj hj' hj0 => ?_,fun j k hj hk hj2 hk2 hj0 hk0 hjk => ?_⟩,h1.2⟩
 ·have:=h1.1
  unfold OwnV at this
  rw [show slv gx r.length cx=xv r.length (gx,cx).1 (gx,cx).2 from (xv_pos hr0 _ _).symm, ← hdV_set,hdV_length _ _ (by simp [h.len]),List.length_set] at this
  rw [List.length_set,show slv gx r.length cx=xv r.length (gx,cx).1 (gx,cx).2 from (xv_pos hr0 _ _).symm]; exact this
 ·rw [List.length_set] at hj hj'
  by_cases hij:i=j
  ·subst hij; simp only [List.getElem_set_self]; exact hO.other h1.2 (ne_outerL h.outer hO)
  ·simp only [List.getElem_set_ne hij] at hj0 ⊢
   have hOj:=h.row j hj hj' hj0
   exact hOj.other h1.2 (ne_outerL h.outer hOj)
 ·rw [List.length_set] at hj hk hj2 hk2
  by_cases hij:i=j
  ·subst hij
   simp only [List.getElem_set_ne hjk] at hk0
   simp only [List.getElem_set_self,List.getElem_set_ne hjk]
   exact Ne.symm (hne k hk hk2 hk0 (Ne.symm hjk))
  ·simp only [List.getElem_set_ne hij] at hj0 ⊢
   by_cases hik:i=k
   ·subst hik
    simp only [List.getElem_set_self]
    exact hne j hj hj2 hj0 hjk
   ·simp only [List.getElem_set_ne hik] at hk0 ⊢
    exact h.dis j k hj hk hj2 hk2 hj0 hk0 hjk
def LgsR (w:World) (v:Value) (M:Mx):Prop := ∃ sa gb go cap vs,v = .slice sa M.length cap∧M.length≤cap∧vs.length=M.length∧Sl w sa gb go vs ∧ ∀ i (h:i<M.length) (h':i<vs.length),IntsR w vs[i] M[i]
theorem LgsR.ext {w w':World} {v:Value} {M:Mx} (h:LgsR w v M) (he:Ext w w'):LgsR w' v M:=by
 obtain ⟨sa,gb,go,cap,vs,h1,h2,h3,h4,h5⟩:=h
 exact ⟨sa,gb,go,cap,vs,h1,h2,h3,h4.ext he,fun i a b=>(h5 i a b).ext he⟩
theorem LrX.gridR {B:Nat} {w:World} {v:Value} {F:Mx} {ad:List (Nat×Nat)} (h:LrX B w v F ad):LgsR w v F:=by
 have hr : ∀ i (_:i<F.length) (h':i<(hdV ad F).length),IntsR w (hdV ad F)[i] F[i]:=fun i a b=>by
  have hi':i<ad.length:=by rw [h.len]; exact a
  have hg:=hdV_get ad F i hi' a
  obtain ⟨_,he⟩:=List.getElem?_eq_some_iff.1 hg
  rw [he]
  rcases Nat.eq_zero_or_pos F[i].length with hn | hn
  ·rw [List.eq_nil_of_length_eq_zero hn]
   exact ⟨none,0,0,0,rfl,Nat.le_refl _,Sl.nil _ _ _ _⟩
  ·rw [xv_pos hn]; exact (h.row i a hi' hn).intsR rfl
 rcases h.own.2 with ⟨rfl,h0⟩ | ⟨g,cap,cur,rfl,hb,hg,hn,hm,hs,ht⟩
 ·have hF:F=[]:=List.eq_nil_of_length_eq_zero h0
  subst hF
  exact ⟨none,0,0,0,[],rfl,Nat.le_refl _,rfl,Sl.nil _ _ _ _,fun i h=>by simp at h⟩
 ·exact ⟨_,g,0,cap,hdV ad F,rfl,hn,hdV_length _ _ h.len,h.outer.sl,hr⟩
section
variable {w:World} {ops:Array Oper} {rest:List Oper} {o:Oper} {a:Act} {Q:Exit→Act→World→Prop}
theorem app_longs (hgd:o.guard=none) (s x:Operand) (ho:o.op = .call { callee := .builtin .append,args := #[s,x],argTypes := #[263,263] })
  {B:Nat} {v:Value} {F:Mx} {r:List Int} {ad:List (Nat×Nat)} {g0 c0:Nat} (hs:a.eval s=v) (hown:LrX B w v F ad) {b:Nat} (hx:a.eval x = .slice (some ⟨b,0,none⟩) 1 1) (hc:w.cell? ⟨b,0,none⟩=some (xv r.length g0 c0)) (hr:0<r.length→OwnV 79 B w g0 c0 (ss r)) (hnew:0<r.length → ∀ i (h:i<ad.length) (h':i<F.length),0<F[i].length→ad[i].1≠g0) (hl:F.length≤1000000000) (hB:B≤w.heap.size)
  (h : ∀ g cap w',LrX B w' (slv g (F.length+1) cap) (F++[r]) (ad++[(g0,c0)])→Below B w w'→w.grownBy w' v.ownBlock→wpList Tryz.prog ops Q rest (a.put o.dst (slv g (F.length+1) cap)) w'):wpList Tryz.prog ops Q (o::rest) a w:=by
 obtain ⟨i0,hi,hz0,hz1,hz2⟩:=info_parts Tryz.infoLong
 obtain ⟨hlen,h2,h3,hdis⟩:=hown
 refine wpList_append_lies w hgd s x 263 ho B 306 i0 _ 1 24 Tryz.underlying263 hi hz0 hz1 hz2 rfl (by omega) v F.length (hdV ad F) hs h2 ⟨b,0,none⟩ 1 1 [xv r.length g0 c0] hx rfl ?_ ?_ (by omega) (by unfold maxLen; omega) (by omega) hB w.heap.size rfl ?_
 ·intro j u hj
  have:j=0:=by have:=(List.getElem?_eq_some_iff.1 hj).1; simp at this; omega
  subst this
  simp only [List.getElem?_cons_zero,Option.some.injEq] at hj
  subst hj
  simpa [Addr.add_lit] using hc
 ·intro u hu
  simp only [List.mem_cons,List.not_mem_nil,or_false] at hu
  subst hu; unfold xv; split <;> rfl
 ·intro g cap w' k1 k2 k3 k4
  have hkeep : ∀ {u cu:Nat} {l:List Int},OwnV 79 B w u cu (ss l)→OwnV 79 B w' u cu (ss l):=fun {u cu l} hu=>by
   have h5:w.ownsRow B 79 1 (slv u (ss l).length cu) (ss l).length (ss l):=hu
   exact own_kept h5 h2 (by decide) k2
  refine h g cap w' ⟨by simp [hlen],?_,fun i hi1 hi2 hi0 => ?_,fun i j hi1 hj1 hi2 hj2 hi0 hj0 hij => ?_⟩ (Below.grown (Below.refl _ _) k2 hB (fun q hq=>(World.ownsRow.lt h2 q hq).1)) k2
  ·rw [List.length_append,hdV_snoc ad F (g0,c0) r hlen]; exact k1
  ·rcases Nat.lt_or_ge i F.length with hlt | hge
   ·simp only [List.getElem_append_left hlt,List.getElem_append_left (show i<ad.length by omega)] at hi0 ⊢
    exact hkeep (h3 i hlt (by omega) hi0)
   ·have hie:i=F.length:=by simp at hi1; omega
    subst hie
    simp only [List.getElem_append_right (Nat.le_refl F.length),List.getElem_append_right (show ad.length≤F.length by omega),hlen,Nat.sub_self,List.getElem_cons_zero] at hi0 ⊢
    exact hkeep (hr hi0)
  ·rw [List.length_append,List.length_singleton] at hi1 hj1 hi2 hj2
   rcases Nat.lt_or_ge i ad.length with hil | hig
   ·rw [List.getElem_append_left hil]
    rw [List.getElem_append_left (show i<F.length by omega)] at hi0
    rcases Nat.lt_or_ge j ad.length with hlt | hge
    ·rw [List.getElem_append_left hlt]
     rw [List.getElem_append_left (show j<F.length by omega)] at hj0
     exact hdis i j (by omega) hlt (by omega) (by omega) hi0 hj0 hij
    ·have hje:j=ad.length:=by omega
     subst hje
     rw [List.getElem_append_right (Nat.le_refl _)]
     rw [snoc_at F r _ hlen] at hj0
     simp only [Nat.sub_self,List.getElem_cons_zero]
     exact hnew hj0 i hil (by omega) hi0
   ·have hie:i=ad.length:=by omega
    subst hie
    rw [List.getElem_append_right (Nat.le_refl _),List.getElem_append_left (show j<ad.length by omega)]
    rw [List.getElem_append_left (show j<F.length by omega)] at hj0
    rw [snoc_at F r _ hlen] at hi0
    simp only [Nat.sub_self,List.getElem_cons_zero]
    exact Ne.symm (hnew hi0 j (by omega) (by omega) hj0)
end
end Go.Proofs.YtjnpakablgommaaGreatDoor
