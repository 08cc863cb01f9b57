/- Part 12 of the proof of the claim: contracts of the functions that it reaches, and plain laws; no condition. -/
import Derived.Test.YtmhfccigejcphaaGreatDoorQ11
import Derived.Test.YtmhfccigejcphaaGreatDoorQ08
import Derived.OrdersHeld
set_option maxRecDepth 100000
set_option maxHeartbeats 20000000
namespace Go.Proofs.YtmhfccigejcphaaGreatDoor
section
open Go.RowKit Go.Sort
open Lib (hid)
theorem Tryz.infoInts:(Tryz.prog.info? 122).map (λi=>(i.zero,i.size,i.bytes))=some (some (.slice none 0 0),1,24):=by kernel_rfl
def sw2 {α:Type} (l:List α) (d:α) (i j:Nat):List α:=(l.set i (l.getD j d)).set j (l.getD i d)
@[simp] theorem Qj {α:Type} (l:List α) (d:α) (i j:Nat):(sw2 l d i j).length=l.length:=by simp [sw2]
theorem Xd {α:Type} (l:List α) (d:α) {i j:Nat} (hi:i<l.length) (hj:j<l.length) (t:Nat) (e:α):(sw2 l d i j).getD t e=if t=j then l.getD i d else if t=i then l.getD j d else l.getD t e:=by
 unfold sw2;rw [QZ _ _ _ _ _ (by simpa using hj),QZ _ _ _ _ _ hi]
theorem KP {α:Type} (l:List α) (d:α) {i j:Nat} (hi:i<l.length) (hj:j<l.length) {t:Nat} (ht:t<(sw2 l d i j).length):(sw2 l d i j)[t]=l[sg i j t]'(Y5 hi hj (by simpa using ht)):=by
 have:=Xd l d hi hj t d;rw [Ka ht] at this;rw [this];unfold sg;split
 ·rw [Ka hi]
 ·split
  ·rw [Ka hj]
  ·rw [Ka (by simpa using ht)]
def hdV:List (Nat×Nat)->Mx->List Value
 | a::ad,r::F=>xv r.length a.1 a.2::hdV ad F
 | _,_=>[]
theorem KW : ∀(ad:List (Nat×Nat)) (F:Mx),ad.length=F.length->(hdV ad F).length=F.length
 | [],[],_=>rfl
 | [],_::_,h=>by simp at h
 | _::_,[],h=>by simp at h
 | a::ad,r::F,h=>by simp [hdV,KW ad F (by simpa using h)]
theorem XP : ∀(ad:List (Nat×Nat)) (F:Mx) (i:Nat) (h:i<ad.length) (h2:i<F.length),(hdV ad F)[i]? = some (xv F[i].length ad[i].1 ad[i].2)
 | a::ad,r::F,0,_,_=>rfl
 | a::ad,r::F,i+1,h,h2=>by simpa [hdV] using XP ad F i (by simpa using h) (by simpa using h2)
 | [],_,i,h,_=>by simp at h
 | _::_,[],i,_,h=>by simp at h
theorem YC : ∀(ad:List (Nat×Nat)) (F:Mx) (i:Nat) (a:Nat×Nat) (r:List Int),hdV (ad.set i a) (F.set i r)=(hdV ad F).set i (xv r.length a.1 a.2)
 | [],[],i,a,r=>by simp [hdV]
 | [],_::_,i,a,r=>by simp [hdV]
 | b::ad,[],i,a,r=>by cases i<;>simp [hdV]
 | b::ad,s::F,0,a,r=>by simp [hdV]
 | b::ad,s::F,i+1,a,r=>by simp [hdV,YC ad F i a r]
theorem Kdv : ∀(ad:List (Nat×Nat)) (F:Mx) (a:Nat×Nat) (r:List Int),ad.length=F.length->hdV (ad++[a]) (F++[r])=hdV ad F++[xv r.length a.1 a.2]
 | [],[],a,r,_=>rfl
 | [],_::_,a,r,h=>by simp at h
 | _::_,[],a,r,h=>by simp at h
 | b::ad,s::F,a,r,h=>by simp [hdV,Kdv ad F a r (by simpa using h)]
structure GrX (B:Nat) (w:World) (v:Value) (F:Mx) (ad:List (Nat×Nat)):Prop where
 len:ad.length=F.length
 own:w.ownsRow B 122 1 v F.length (hdV ad F)
 row : ∀i (h:i<F.length) (h':i<ad.length),0<F[i].length->Kd 82 B w ad[i].1 ad[i].2 (ss F[i])
 dis : ∀i j (hi:i<ad.length) (hj:j<ad.length) (h:i<F.length) (h':j<F.length),0<F[i].length->0<F[j].length->i≠j->ad[i].1≠ad[j].1
theorem GrX.nil (B:Nat) (w:World):GrX B w (.slice none 0 0) [] [] :=
 ⟨rfl,⟨rfl,.inl ⟨rfl,rfl⟩⟩,(λi h=>by simp at h),(λi j h=>by simp at h)⟩
theorem GrX.ext {B:Nat} {w w':World} {v:Value} {F:Mx} {ad:List (Nat×Nat)} (h:GrX B w v F ad) (he:Ext w w'):GrX B w' v F ad :=
 ⟨h.len,K9 h.own he,λi a b c=>(h.row i a b c).ext he,h.dis⟩
theorem GrX.mono {B B':Nat} {w:World} {v:Value} {F:Mx} {ad:List (Nat×Nat)} (h:GrX B w v F ad) (hB:B'<=B):GrX B' w v F ad :=
 ⟨h.len,Q9 h.own hB,λi a b c=>(h.row i a b c).mono hB,h.dis⟩
theorem GrX.shape {B:Nat} {w:World} {v:Value} {F:Mx} {ad:List (Nat×Nat)} (h:GrX B w v F ad) : ∃ga cap,v = .slice ga F.length cap/\F.length<=cap/\(0<F.length -> ∃g,ga=some ⟨g,0,none⟩):=by
 rcases h.own.2 with ⟨rfl,h0⟩ | ⟨g,cap,cur,rfl,hb,hg,hn,hm,hs,ht⟩
 ·rw [h0];exact ⟨none,0,rfl,Nat.le_refl _,λh=>by omega⟩
 ·exact ⟨_,cap,rfl,hn,λ_=>⟨g,rfl⟩⟩
theorem GrX.outer {B:Nat} {w:World} {g cap:Nat} {F:Mx} {ad:List (Nat×Nat)} (h:GrX B w (slv g F.length cap) F ad):Kd 122 B w g cap (hdV ad F):=by
 unfold Kd;rw [KW _ _ h.len];exact h.own
theorem KY {B B':Nat} {w:World} {g cap gx cx:Nat} {xs ys:List Value} (h:Kd 122 B w g cap xs) (h':Kd 82 B' w gx cx ys):gx≠g:=by
 intro e;exact KdN (u:=slv gx ys.length cx) (v:=slv g xs.length cap) h' h (by decide) (g:=gx) rfl (by rw [e];rfl)
theorem GrX.at {B:Nat} {w:World} {g cap n i:Nat} {F:Mx} {ad:List (Nat×Nat)} (h:GrX B w (slv g F.length cap) F ad) (hR:Ks n F) (hn:0<n) (hi:i<F.length) :
  ∃gx cx,ad[i]? = some (gx,cx)/\w.cell? ⟨g,i,none⟩=some (slv gx n cx)/\Kd 82 B w gx cx (ss (F.getD i []))/\gx≠g/\(F.getD i []).length=n:=by
 have hi':i<ad.length:=by rw [h.len];exact hi
 have hl:F[i].length=n:=hR _ (List.getElem_mem hi);have hO:=h.row i hi hi' (by omega);refine ⟨ad[i].1,ad[i].2,by rw [List.getElem?_eq_getElem hi'],?_,?_,KY h.outer hO,by rw [Ka hi];exact hl⟩
 ·have hg:=XP ad F i hi' hi;obtain ⟨hlt,he⟩:=List.getElem?_eq_some_iff.1 hg;rw [h.outer.cell (j:=i) hlt,he,hl,Qn hn]
 ·rw [Ka hi];exact hO
theorem GrX.wrote {B:Nat} {w w':World} {g cap i gx cx:Nat} {F:Mx} {ad:List (Nat×Nat)} {r:List Int} (h:GrX B w (slv g F.length cap) F ad) (hi:i<F.length) (ha:ad[i]? = some (gx,cx)) (hr:r.length=(F.getD i []).length) (hr0:0<r.length)
  (hO:Kd 82 B w' gx cx (ss r)) (hC:Chg (λk=>k=gx) w w'):GrX B w' (slv g F.length cap) (F.set i r) ad:=by
 have hi':i<ad.length:=by rw [h.len];exact hi
 rw [Ka hi] at hr;rw [List.getElem?_eq_getElem hi'] at ha;have ea:=Option.some.inj ha;have hOi:=h.row i hi hi' (by omega)
 have hg:g≠gx:=by
  have:=KY h.outer hOi;rw [ea] at this;exact Ne.symm this
 have hOut:=hC.own hg h.outer
 have hh:hdV ad (F.set i r)=hdV ad F:=by
  have e:ad=ad.set i ad[i]:=(List.set_getElem_self hi').symm;have:=YC ad F i ad[i] r;rw [<-e] at this;rw [this];have hg2:=XP ad F i hi' hi;obtain ⟨hlt,he⟩:=List.getElem?_eq_some_iff.1 hg2;rw [hr,<-he,List.set_getElem_self]
 refine ⟨by rw [List.length_set];exact h.len,?_,λj hj hj' hj0 => ?_,λj k hj hk hj2 hk2 hj0 hk0 hjk => ?_⟩
 ·unfold Kd at hOut;rw [KW _ _ h.len] at hOut;rw [List.length_set,hh];exact hOut
 ·rw [List.length_set] at hj
  by_cases hij:i=j
  ·subst hij;simp only [List.getElem_set_self];rw [ea];exact hO
  ·simp only [List.getElem_set_ne hij] at hj0 ⊢;have:=h.dis j i hj' hi' hj hi hj0 (by omega) (Ne.symm hij);rw [ea] at this;exact hC.own this (h.row j hj hj' hj0)
 ·rw [List.length_set] at hj2 hk2;refine h.dis j k hj hk hj2 hk2 ?_ ?_ hjk
  ·by_cases hij:i=j
   ·subst hij;omega
   ·simpa only [List.getElem_set_ne hij] using hj0
  ·by_cases hij:i=k
   ·subst hij;omega
   ·simpa only [List.getElem_set_ne hij] using hk0
theorem GrX.keep {B:Nat} {w w':World} {g cap:Nat} {F:Mx} {ad:List (Nat×Nat)} {R:Nat->Prop} (h:GrX B w (slv g F.length cap) F ad) (hC:Chg R w w') (hg : ¬R g) (ha : ∀i (h:i<ad.length) (h':i<F.length),0<F[i].length -> ¬R ad[i].1):GrX B w' (slv g F.length cap) F ad:=by
 have hOut:=hC.own hg h.outer;refine ⟨h.len,?_,λj hj hj' hj0=>hC.own (ha j hj' hj hj0) (h.row j hj hj' hj0),h.dis⟩;unfold Kd at hOut;rw [KW _ _ h.len] at hOut;exact hOut
theorem GrX.swapped {B:Nat} {w:World} {g cap n i j gi ci gj cj:Nat} {F:Mx} {ad:List (Nat×Nat)} (h:GrX B w (slv g F.length cap) F ad) (hR:Ks n F) (hn:0<n) (hi:i<F.length) (hj:j<F.length) (hai:ad[i]? = some (gi,ci)) (haj:ad[j]? = some (gj,cj)) :
  GrX B ((w.setCell ⟨g,i,none⟩ (slv gj n cj)).setCell ⟨g,j,none⟩ (slv gi n ci)) (slv g F.length cap) (sw2 F [] i j) (sw2 ad (0,0) i j)
   /\ w.grownBy ((w.setCell ⟨g,i,none⟩ (slv gj n cj)).setCell ⟨g,j,none⟩ (slv gi n ci)) (some g)/\Ks n (sw2 F [] i j):=by
 have hi':i<ad.length:=by rw [h.len];exact hi
 have hj':j<ad.length:=by rw [h.len];exact hj
 have h1:=h.outer.set i (slv gj n cj);have h2:=h1.1.set j (slv gi n ci);have hG:=Kh h1.2 h2.2;have ei:ad.getD i (0,0)=(gi,ci):=by rw [List.getD_eq_getElem?_getD,hai];rfl
 have ej:ad.getD j (0,0)=(gj,cj):=by rw [List.getD_eq_getElem?_getD,haj];rfl
 have fi:(F.getD i []).length=n:=by rw [Ka hi];exact hR _ (List.getElem_mem hi)
 have fj:(F.getD j []).length=n:=by rw [Ka hj];exact hR _ (List.getElem_mem hj)
 have eh:hdV (sw2 ad (0,0) i j) (sw2 F [] i j)=((hdV ad F).set i (slv gj n cj)).set j (slv gi n ci):=by
  unfold sw2;rw [YC,YC,ei,ej,fi,fj,Qn hn,Qn hn]
 have hR2:Ks n (sw2 F [] i j):=λs hs=>by
  obtain ⟨t,ht,rfl⟩:=List.getElem_of_mem hs;rw [KP F [] hi hj ht];exact hR _ (List.getElem_mem _)
 refine ⟨⟨by simp [h.len],?_,λt ht ht' ht0 => ?_,λt u ht hu ht2 hu2 ht0 hu0 htu => ?_⟩,hG,hR2⟩
 ·have:=h2.1;unfold Kd at this;rw [<-eh,KW _ _ (by simp [h.len]),Qj] at this;rw [Qj];exact this
 ·rw [KP F [] hi hj ht] at ht0 ⊢;rw [KP ad (0,0) hi' hj' ht'];have ht2:t<F.length:=by simpa using ht
  have hO:=h.row (sg i j t) (Y5 hi hj ht2) (Y5 hi' hj' (by simpa using ht')) ht0;exact hO.other hG (KY h.outer hO)
 ·rw [KP F [] hi hj ht2] at ht0;rw [KP F [] hi hj hu2] at hu0;rw [KP ad (0,0) hi' hj' ht,KP ad (0,0) hi' hj' hu];exact h.dis _ _ _ _ (Y5 hi hj (by simpa using ht2)) (Y5 hi hj (by simpa using hu2)) ht0 hu0 (λe=>htu (KiI e))
def ZY (w:World) (v:Value) (l:List Int):Prop := ∃sa gb go cap,v = .slice sa l.length cap/\l.length<=cap/\Sl w sa gb go (ss l)
def XH (w:World) (v:Value) (M:Mx):Prop := ∃sa gb go cap vs,v = .slice sa M.length cap/\M.length<=cap/\vs.length=M.length/\Sl w sa gb go vs /\ ∀i (h:i<M.length) (h':i<vs.length),ZY w vs[i] M[i]
theorem ZY.ext {w w':World} {v:Value} {l:List Int} (h:ZY w v l) (he:Ext w w'):ZY w' v l:=by
 obtain ⟨sa,gb,go,cap,h1,h2,h3⟩:=h;exact ⟨sa,gb,go,cap,h1,h2,h3.ext he⟩
theorem XH.ext {w w':World} {v:Value} {M:Mx} (h:XH w v M) (he:Ext w w'):XH w' v M:=by
 obtain ⟨sa,gb,go,cap,vs,h1,h2,h3,h4,h5⟩:=h;exact ⟨sa,gb,go,cap,vs,h1,h2,h3,h4.ext he,λi a b=>(h5 i a b).ext he⟩
theorem Kd.intsR {B:Nat} {w:World} {g cap n:Nat} {l:List Int} (h:Kd 82 B w g cap (ss l)) (hn:l.length=n):ZY w (slv g n cap) l:=by
 subst hn;exact ⟨_,g,0,cap,rfl,by have:=h.cap;simpa using this,h.sl⟩
theorem XH.row {w:World} {sa:Option Addr} {gb go:Nat} {vs:List Value} {M:Mx} (hS:Sl w sa gb go vs) (hl:vs.length=M.length) (hr : ∀i (h:i<M.length) (h':i<vs.length),ZY w vs[i] M[i]) {i:Nat} (hi:i<M.length) :
  ∃sr br or cr,w.cell? ⟨gb,go+i,none⟩=some (.slice sr M[i].length cr)/\M[i].length<=cr/\Sl w sr br or (ss M[i]):=by
 obtain ⟨sr,br,or,cr,e,h1,h2⟩:=hr i hi (by omega);exact ⟨sr,br,or,cr,by rw [<-e];exact hS.cell i _ (List.getElem?_eq_getElem (by omega)),h1,h2⟩
theorem KcZ (F:Mx) (r:List Int) {j:Nat} (h:j<(F++[r]).length) (e:j=F.length):(F++[r])[j]=r:=by subst e;simp
section
variable {w:World} {ops:Array Oper} {rest:List Oper} {o:Oper} {a:Act} {Q:Exit->Act->World->Prop}
theorem Kgn (hgd:o.guard=none) (s x:Operand) (ho:o.op = .call { callee := .builtin .append,args := #[s,x],argTypes := #[216,216] })
  {B:Nat} {v:Value} {F:Mx} {r:List Int} {ad:List (Nat×Nat)} {g0 c0:Nat} (hs:a.eval s=v) (hown:GrX B w v F ad) {b:Nat} (hx:a.eval x = .slice (some ⟨b,0,none⟩) 1 1) (hc:w.cell? ⟨b,0,none⟩=some (xv r.length g0 c0)) (hr:0<r.length->Kd 82 B w g0 c0 (ss r)) (hnew:0<r.length -> ∀i (h:i<ad.length) (h':i<F.length),0<F[i].length->ad[i].1≠g0) (hl:F.length<=1000000000) (hB:B<=w.heap.size)
  (h : ∀g cap w',GrX B w' (slv g (F.length+1) cap) (F++[r]) (ad++[(g0,c0)])->Below B w w'->w.grownBy w' v.ownBlock->wpList Tryz.prog ops Q rest (a.put o.dst (slv g (F.length+1) cap)) w'):wpList Tryz.prog ops Q (o::rest) a w:=by
 obtain ⟨i0,hi,hz0,hz1,hz2⟩:=info_parts Tryz.infoInts;obtain ⟨hlen,h2,h3,hdis⟩:=hown;refine wpList_append_lies w hgd s x 216 ho B 122 i0 _ 1 24 Tryz.underlying216 hi hz0 hz1 hz2 rfl (by omega) v F.length (hdV ad F) hs h2 ⟨b,0,none⟩ 1 1 [xv r.length g0 c0] hx rfl ?_ ?_ (by omega) (by unfold maxLen;omega) (by omega) hB w.heap.size rfl ?_
 ·intro j u hj;have:j=0:=by have:=(List.getElem?_eq_some_iff.1 hj).1;simp at this;omega
  subst this;simp only [List.getElem?_cons_zero,Option.some.injEq] at hj;subst hj;simpa [Addr.add_lit] using hc
 ·intro u hu;simp only [List.mem_cons,List.not_mem_nil,or_false] at hu;subst hu;unfold xv;split<;>rfl
 ·intro g cap w' k1 k2 k3 k4
  have hkeep : ∀{u cu:Nat} {l:List Int},Kd 82 B w u cu (ss l)->Kd 82 B w' u cu (ss l):=λ{u cu l} hu=>by
   have h5:w.ownsRow B 82 1 (slv u (ss l).length cu) (ss l).length (ss l):=hu;exact KB h5 h2 (by decide) k2
  refine h g cap w' ⟨by simp [hlen],?_,λi hi1 hi2 hi0 => ?_,λi j hi1 hj1 hi2 hj2 hi0 hj0 hij => ?_⟩ (Below.grown (Below.refl _ _) k2 hB (λq hq=>(World.ownsRow.lt h2 q hq).1)) k2
  ·rw [List.length_append,Kdv ad F (g0,c0) r hlen];exact k1
  ·rcases Nat.lt_or_ge i F.length with hlt | hge
   ·simp only [List.getElem_append_left hlt,List.getElem_append_left (show i<ad.length by omega)] at hi0 ⊢;exact hkeep (h3 i hlt (by omega) hi0)
   ·have hie:i=F.length:=by simp at hi1;omega
    subst hie;simp only [List.getElem_append_right (Nat.le_refl F.length),List.getElem_append_right (show ad.length<=F.length by omega),hlen,Nat.sub_self,List.getElem_cons_zero] at hi0 ⊢;exact hkeep (hr hi0)
  ·rw [List.length_append,List.length_singleton] at hi1 hj1 hi2 hj2
   rcases Nat.lt_or_ge i ad.length with hil | hig
   ·rw [List.getElem_append_left hil];rw [List.getElem_append_left (show i<F.length by omega)] at hi0
    rcases Nat.lt_or_ge j ad.length with hlt | hge
    ·rw [List.getElem_append_left hlt];rw [List.getElem_append_left (show j<F.length by omega)] at hj0;exact hdis i j (by omega) hlt (by omega) (by omega) hi0 hj0 hij
    ·have hje:j=ad.length:=by omega
     subst hje;rw [List.getElem_append_right (Nat.le_refl _)];rw [KcZ F r _ hlen] at hj0;simp only [Nat.sub_self,List.getElem_cons_zero];exact hnew hj0 i hil (by omega) hi0
   ·have hie:i=ad.length:=by omega
    subst hie;rw [List.getElem_append_right (Nat.le_refl _),List.getElem_append_left (show j<ad.length by omega)];rw [List.getElem_append_left (show j<F.length by omega)] at hj0;rw [KcZ F r _ hlen] at hi0;simp only [Nat.sub_self,List.getElem_cons_zero];exact Ne.symm (hnew hi0 j (by omega) (by omega) hj0)
end
theorem Klr (u:Nat):I (u:Int)=D u:=by unfold I D;rw [Yj]
theorem KlU {u v:Nat} (hu:Lib.nDigits u<LIM) (hv:Lib.nDigits v<LIM) {w:World} (hL:Laid w) :
  Calls Tryz.prog 235 #[D u,D v] w λe w'=>e = .returned (D (Nat.gcd u v))/\Ext w w':=by
 have HL:=hid hL;obtain ⟨g,hg⟩ : ∃g,g=Nat.gcd u v:=⟨_,rfl⟩
 have H0:=hid (⟨hu,hv,hg.symm⟩:Lib.nDigits u<LIM/\Lib.nDigits v<LIM/\Nat.gcd u v=g);rw [<-hg];clear hL hu hv hg
 go_enter Tryz.func235,Tryz.ntmps235
 go_wp2_with fail
 go_loopg [0,1,5,6,7] v (λk av bv _ _ _ wr => ∃(x y:Nat),av=D x/\bv=D y/\k=y/\Hid (Lib.nDigits x<LIM/\Lib.nDigits y<LIM/\Nat.gcd x y=g)/\Ext w wr)
 case atStart=>exact ⟨u,v,rfl,rfl,rfl,hid ⟨H0.out.1,H0.out.2.1,H0.out.2.2⟩,Ext.refl _⟩
 case round =>
  obtain ⟨x,y,rfl,rfl,rfl,HK,hE⟩:=hrel;generalize wr=V at *
  by_cases hy:gk=0
  ·have hvz:(Lib.decDigits gk==[48])=true:=by rw [Q5,decide_eq_true hy]
   have Hg:=hid (show g=x by have:=HK.out.2.2;rw [hy,Nat.gcd_zero_right] at this;exact this.symm);clear hy;go_wp2_with fail;go_ret;exact ⟨KF (by rw [Hg.out];rfl),hE⟩
  ·have hvz:(Lib.decDigits gk==[48])=false:=by rw [Q5,decide_eq_false hy]
   have hdm:=hid (Kcl HK.out.1 HK.out.2.1 hy (HL.out.ext hE));have Hm:=hid (Nat.mod_lt x (Nat.pos_of_ne_zero hy));have HK2:=hid (show Lib.nDigits gk<LIM/\Lib.nDigits (x%gk)<LIM/\Nat.gcd gk (x%gk)=g from ⟨HK.out.2.1,Nat.lt_of_le_of_lt (Qw (Nat.le_of_lt Hm.out)) HK.out.2.1,by rw [<-HK.out.2.2,Nat.gcd_comm gk,<-Nat.gcd_rec,Nat.gcd_comm]⟩);generalize x%gk=r at *;clear hy HK;go_wp2_with fail;refine hdm.out.mono ?_;rintro e w1 ⟨rfl,hE1⟩;go_wp2_with fail
   go_roundg r
   case measure=>exact Hm.out
   case rel=>exact ⟨gk,r,rfl,rfl,rfl,HK2,hE.trans hE1⟩
theorem Knw {u v:Nat} (hu:u<1000000000000000000) (hv:v<1000000000000000000) (w:World) :
  Calls Tryz.prog 234 #[.int .i64 u,.int .i64 v] w λe w'=>e = .returned (.int .i64 (Nat.gcd u v:Nat))/\Ext w w':=by
 obtain ⟨g,hg⟩ : ∃g,g=Nat.gcd u v:=⟨_,rfl⟩
 have H0:=hid hg.symm;rw [<-hg];clear hg
 go_enter Tryz.func234,Tryz.ntmps234
 go_wp2_with fail
 go_loopg [0,1] v (λk av bv wr => ∃(x y:Nat),av = .int .i64 x/\bv = .int .i64 y/\k=y/\x<1000000000000000000/\y<1000000000000000000/\Hid (Nat.gcd x y=g)/\Ext w wr)
 case atStart=>exact ⟨u,v,rfl,rfl,rfl,hu,hv,H0,Ext.refl _⟩
 case round =>
  obtain ⟨x,y,rfl,rfl,rfl,hx,hy,HK,hE⟩:=hrel;generalize wr=V at *
  by_cases hz:gk=0
  ·subst hz;have Hg:=hid (show g=x by have:=HK.out;rw [Nat.gcd_zero_right] at this;exact this.symm);go_wp2_with fail;go_ret;exact ⟨KF (by rw [Hg.out];rfl),hE⟩
  ·have hzi:((gk:Int)==0)=false:=beq_eq_false_iff_ne.2 (by omega);have hr:Int.tmod (x:Int) (gk:Int)=((x%gk:Nat):Int):=by rw [Int.tmod_eq_emod_of_nonneg (by omega)];omega
   have Hm:=Nat.mod_lt x (Nat.pos_of_ne_zero hz);have HK2:=hid (show Nat.gcd gk (x%gk)=g by rw [<-HK.out,Nat.gcd_comm gk,<-Nat.gcd_rec,Nat.gcd_comm]);generalize x%gk=r at *;clear hz HK;go_wp2_with fail
   go_quiet (fail)
   go_wp2_with fail
   go_roundg r
   case measure=>exact Hm
   case rel=>exact ⟨gk,r,rfl,rfl,rfl,hy,by omega,HK2,hE.drewN _⟩
theorem Kmk {z:Int}:Km 18 (z.natAbs:Int)=decide (Lib.nDigits z.natAbs<=18):=by
 unfold Km;rw [Yj,Lib.decDigits_length]
theorem KhR {a b:Int} (ha:nd a<LIM) (hb:nd b<LIM) {w:World} (hL:Laid w) :
  Calls Tryz.prog 178 #[I a,I b] w λe w'=>e = .returned (I (Nat.gcd a.natAbs b.natAbs:Nat))/\Ext w w':=by
 have HL:=hid hL;have h1:=hid (J0 (z:=a) (Nat.le_of_lt ha));have h2:=hid (J0 (z:=b) (Nat.le_of_lt hb));have l1:=hid (KX (z:=(a.natAbs:Int)) (m:=18) (by show Lib.nDigits _<=_;rw [Int.natAbs_natCast];exact Nat.le_of_lt ha) (by omega));have l2:=hid (KX (z:=(b.natAbs:Int)) (m:=18) (by show Lib.nDigits _<=_;rw [Int.natAbs_natCast];exact Nat.le_of_lt hb) (by omega));have hdg:=hid (λw hL=>KlU (u:=a.natAbs) (v:=b.natAbs) (w:=w) ha hb hL);rw [Kmk] at l1 l2;rw [Klr];rw [Klr] at h1 h2 l1 l2;clear hL ha hb;generalize a.natAbs=u at *;generalize b.natAbs=v at *
 by_cases hs1:Lib.nDigits u<=18
 ·rw [decide_eq_true hs1] at l1
  by_cases hs2:Lib.nDigits v<=18
  ·rw [decide_eq_true hs2] at l2;rw [if_pos rfl] at l1 l2;have b1:=KA hs1;have b2:=KA hs2
   have hgl:Nat.gcd u v<1000000000000000000:=by
    by_cases h0:u=0
    ·subst h0;rw [Nat.gcd_zero_left];omega
    ·have:=Nat.gcd_le_left v (Nat.pos_of_ne_zero h0);omega
   have hg:=hid (Knw (u:=u) (v:=v) (by omega) (by omega));have hof:=hid (λw hL=>Qa (n:=(Nat.gcd u v:Nat)) (w:=w) (by omega) (by omega) hL);rw [Klr] at hof;clear hs1 hs2 hdg b1 b2;generalize Nat.gcd u v=g at *
   go_enter Tryz.func178,Tryz.ntmps178
   go_wp2_with fail;refine (h1.out _).mono ?_;rintro e w1 ⟨rfl,hE1⟩;go_wp2_with fail;refine (h2.out _).mono ?_;rintro e w2 ⟨rfl,hE2⟩;go_wp2_with fail;refine (l1.out _).mono ?_;rintro e w3 ⟨rfl,hE3⟩;go_wp2_with fail;refine (l2.out _).mono ?_;rintro e w4 ⟨rfl,hE4⟩;go_wp2_with fail;refine (hg.out _).mono ?_;rintro e w5 ⟨rfl,hE5⟩;go_wp2_with fail;have hE:=(((hE1.trans hE2).trans hE3).trans hE4).trans hE5;refine (hof.out _ (HL.out.ext hE)).mono ?_;rintro e w6 ⟨rfl,hE6⟩;go_wp2_with fail;go_ret;exact ⟨rfl,hE.trans hE6⟩
  ·rw [decide_eq_false hs2] at l2;rw [if_pos rfl] at l1;clear hs1 hs2
   go_enter Tryz.func178,Tryz.ntmps178
   go_wp2_with fail;refine (h1.out _).mono ?_;rintro e w1 ⟨rfl,hE1⟩;go_wp2_with fail;refine (h2.out _).mono ?_;rintro e w2 ⟨rfl,hE2⟩;go_wp2_with fail;refine (l1.out _).mono ?_;rintro e w3 ⟨rfl,hE3⟩;go_wp2_with fail;refine (l2.out _).mono ?_;rintro e w4 ⟨rfl,hE4⟩;go_wp2_with fail;have hE:=((hE1.trans hE2).trans hE3).trans hE4;refine (hdg.out _ (HL.out.ext hE)).mono ?_;rintro e w5 ⟨rfl,hE5⟩;go_wp2_with fail;go_ret;exact ⟨rfl,hE.trans hE5⟩
 ·rw [decide_eq_false hs1] at l1;clear hs1
  go_enter Tryz.func178,Tryz.ntmps178
  go_wp2_with fail;refine (h1.out _).mono ?_;rintro e w1 ⟨rfl,hE1⟩;go_wp2_with fail;refine (h2.out _).mono ?_;rintro e w2 ⟨rfl,hE2⟩;go_wp2_with fail;refine (l1.out _).mono ?_;rintro e w3 ⟨rfl,hE3⟩;go_wp2_with fail;have hE:=(hE1.trans hE2).trans hE3;refine (hdg.out _ (HL.out.ext hE)).mono ?_;rintro e w5 ⟨rfl,hE5⟩;go_wp2_with fail;go_ret;exact ⟨rfl,hE.trans hE5⟩
end
section
open Go Go.Sort
section
variable {P:Program} {ops:Array Oper} {md:Region.Mode} {Q:Exit->Act->World->Prop} {S:World->Prop}
def Qe (P:Program) (md:Region.Mode) (ops:Array Oper) (Q:Exit->Act->World->Prop) (S:World->Prop) (n:Nat) (L:Array Bool->Act->World->Prop):Nat->Array Bool->Act->World->Prop
 | 0,listed,a,w=>L listed a w
 | f+1,listed,a,w=>Region.ready md ops listed≠[] /\ ∀i∈Region.ready md ops listed,i<n/\wpOp P ops Q i (λa' w'=>S w'/\Qe P md ops Q S n L f (listed.setIfInBounds i true) a' w') a w
theorem JY {n g:Nat} {L:Array Bool->Act->World->Prop} (hL : ∀listed a w,L listed a w->wpAny P md ops Q g listed a w) :
  ∀(f:Nat) (listed:Array Bool) (a:Act) (w:World),Qe P md ops Q S n L f listed a w->wpAny P md ops Q (f+g) listed a w
 | 0,listed,a,w,h=>by rw [Nat.zero_add];exact hL _ _ _ h
 | f+1,listed,a,w,h=>by
  rw [show f+1+g=(f+g)+1 by omega];exact ⟨λh0=>absurd h0 h.1,λi hi=>wpOp_mono (λa' w' h'=>JY hL f _ a' w' h'.2) (h.2 i hi).2⟩
theorem KeM {n i:Nat} {oi:Oper} {v:Value} {L:Array Bool->Act->World->Prop} (hi:ops[i]? = some oi) (hsel : ∀(j:Nat) (o:Oper) cs b,ops[j]? = some o->o.op ≠ .select cs b)
  (hQ : ∀c a w,Q (.panic c) (a.put oi.dst v) w->Q (.panic c) a w)
  (hs:Region.sinkB md ops n=true) (hc:Region.chainB md ops n=true) (hn:n<ops.size) (hin:i<n)
  (hdone : ∀listed a w,L listed a w -> ∀j∈Region.ready md ops listed,n<=j) :
  ∀(f:Nat) (listed:Array Bool) (a:Act) (w:World),HeadInv md ops n listed ->
   (∀j oj,ops[j]? = some oj->j≠i->listed.getD j true=false->(∀e∈oj.after,Region.binds md e=true->e.on≠i)->oi.apart ops oj=true) ->
   i∈Region.ready md ops listed->YieldsIf P ops S oi v a->S w ->
   Qe P md ops Q S n L f (listed.setIfInBounds i true) (a.put oi.dst v) w->Qe P md ops Q S n L (f+1) listed a w:=by
 intro f
 induction f with
 | zero =>
  intro listed a w inv _ hr hy hS H;have hun:=(mem_ready.1 hr).1;refine ⟨λh=>(by rw [h] at hr;cases hr),λj hj => ?_⟩
  have hjn:j<n:=by
   rcases Nat.lt_or_ge j n with h | h
   ·exact h
   ·exact absurd hj (tail_waits hs hc hn inv _ i rfl hin hun j h)
  refine ⟨hjn,?_⟩
  by_cases hji:j=i
  ·subst hji;exact hy.wpOp hi hS ⟨hS,H⟩
  ·have:=hdone _ _ _ H j (ready_mono hj hji);omega
 | succ f ih =>
  intro listed a w inv hfree hr hy hS H;have hun:=(mem_ready.1 hr).1;refine ⟨λh=>(by rw [h] at hr;cases hr),λj hj => ?_⟩
  have hjn:j<n:=by
   rcases Nat.lt_or_ge j n with h | h
   ·exact h
   ·exact absurd hj (tail_waits hs hc hn inv _ i rfl hin hun j h)
  refine ⟨hjn,?_⟩
  by_cases hji:j=i
  ·subst hji;exact hy.wpOp hi hS ⟨hS,H⟩
  ·have h1:=(H.2 j (ready_mono hj hji)).2;obtain ⟨hjun,oj,hoj,hall⟩:=mem_ready.1 hj
   have hnot : ∀e∈oj.after,Region.binds md e=true->e.on≠i:=λe he hb heq=>by
    have h1:=hall e he hb;rw [heq,getD_both hun] at h1
    cases h1
   have h2:=wpOp_putIf hoj (hfree j oj hoj hji hjun hnot) (λcs b=>hsel i oi cs b hi) (λcs b=>hsel j oj cs b hoj) hQ hy h1
   have hfree' : ∀k ok,ops[k]? = some ok->k≠i->(listed.setIfInBounds j true).getD k true=false ->
     (∀e∈ok.after,Region.binds md e=true->e.on≠i)->oi.apart ops ok=true:=λk ok hk hki hun hno=>by
    refine hfree k ok hk hki ?_ hno
    by_cases hjk:j=k
    ·subst hjk;exact hjun
    ·rw [getD_set_ne true hjk] at hun;exact hun
   refine wpOp_mono (λa' w' h3=>⟨h3.2.1,ih (listed.setIfInBounds j true) a' w' (inv.set hj hjn) hfree' (ready_mono hr (Ne.symm hji)) h3.1 h3.2.1 ?_⟩) h2;rw [Array.setIfInBounds_comm _ _ hji];exact h3.2.2
def Kch (P:Program) (md:Region.Mode) (ops:Array Oper) (Q:Exit->Act->World->Prop) (n:Nat) (rest:List Oper) (listed:Array Bool) (a:Act) (w:World):Prop:=Region.seqB md ops (ops.size-n) n listed=true/\wpList P ops Q rest a w
theorem K7 {n i f:Nat} {oi:Oper} {v:Value} {rest:List Oper} {listed:Array Bool} {a:Act} {w:World} (hi:ops[i]? = some oi)
  (hB:(Region.noSelect ops&&decide (n<ops.size)&&Region.sinkB md ops n&&Region.chainB md ops n&&decide (i<n)&&Region.free md ops listed i&&(Region.ready md ops listed).contains i)=true)
  (hQ : ∀c a w,Q (.panic c) (a.put oi.dst v) w->Q (.panic c) a w) (hy:YieldsIf P ops S oi v a) (hS:S w) (inv:HeadInv md ops n listed)
  (h:HeadInv md ops n (listed.setIfInBounds i true)->Qe P md ops Q S n (Kch P md ops Q n rest) f (listed.setIfInBounds i true) (a.put oi.dst v) w):Qe P md ops Q S n (Kch P md ops Q n rest) (f+1) listed a w:=by
 simp only [Bool.and_eq_true,decide_eq_true_eq] at hB;obtain ⟨⟨⟨⟨⟨⟨hsel,hn⟩,hs⟩,hc⟩,hin⟩,hf⟩,hr⟩:=hB;have hr':i∈Region.ready md ops listed:=by simpa using hr
 exact KeM hi (Region.noSelect_spec hsel) hQ hs hc hn hin (λ_ _ _ hL=>seqB_ready hL.1) f listed a w inv (Region.free_spec hi hf) hr' hy hS (h (inv.set hr' hin))
theorem Ki {n i f:Nat} {o:Oper} {L:Array Bool->Act->World->Prop} {listed:Array Bool} {a:Act} {w:World} (ho:ops[i]? = some o) (hr:(Region.ready md ops listed==[i]&&decide (i<n))=true)
  (h : ∀K':Act->World->Prop,(∀a w,S w->Qe P md ops Q S n L f (listed.setIfInBounds i true) a w->K' a w)->if Region.wanted o (yielded ops a.tmps)=true then Oper.wp P o a w K' Q else K' (a.put o.dst undef) w):Qe P md ops Q S n L (f+1) listed a w:=by
 simp only [Bool.and_eq_true,decide_eq_true_eq,beq_iff_eq] at hr;refine ⟨λh0=>(by rw [hr.1] at h0;cases h0),λj hj => ?_⟩;rw [hr.1] at hj;obtain rfl:j=i:=by simpa using hj
 exact ⟨hr.2,wpOp_step ho (λK' hK=>h K' (λa w hS hW=>hK a w ⟨hS,hW⟩))⟩
theorem Kg {n:Nat} {rest:List Oper} {listed:Array Bool} {a:Act} {w:World} (hB:Region.seqB md ops (ops.size-n) n listed=true) (h:wpList P ops Q rest a w):Qe P md ops Q S n (Kch P md ops Q n rest) 0 listed a w:=⟨hB,h⟩
theorem Kf {id:Nat} {a:Act} {w:World} {l:List Oper} (n:Nat) (hm:P.follows .mixedOrders=true) (hn:n<l.length)
  (h:HeadInv .any l.toArray n (Array.replicate l.toArray.size false)->Qe P .any l.toArray Q S n (Kch P .any l.toArray Q n (l.drop n)) n (Array.replicate l.toArray.size false) a w.drew):(Code.region id l.toArray true).wp P Q a w:=by
 have hdl:(l.drop n).length=l.toArray.size-n:=by simp
 have inv0:HeadInv .any l.toArray n (Array.replicate l.toArray.size false) :=
  ⟨by simp,λj oj _ hl=>(by rw [getD_replicate_false] at hl;cases hl),λt _ ht=>getD_in (by simpa using ht) (getD_replicate_false _ _)⟩
 refine wp_region_any hm ?_
 have:=JY (Q:=Q) (g:=l.toArray.size-n) (λlisted a' w' hL=>by
  have:=wpAny_of_seq (md := .any) (Q':=Q) (l.drop n) n listed a' w' (λj=>by simp [List.getElem?_drop]) (by rw [hdl];exact hL.1) hL.2
  rwa [hdl] at this) _ _ _ _ (h inv0)
 rw [show n+(l.toArray.size-n)=l.toArray.size by simp;omega] at this;exact this
end
section
open Go Go.Sort
variable {P:Program} {ops:Array Oper} {md:Region.Mode} {Q:Exit->Act->World->Prop} {S:World->Prop}
theorem tkA {n i f:Nat} {oi:Oper} {v:Value} {rest:List Oper} {listed:Array Bool} {a:Act} {w:World} (hi:ops[i]? = some oi) (hy:YieldsIf P ops S oi v a) (hS:S w) (inv:HeadInv md ops n listed)
  (h:HeadInv md ops n (listed.setIfInBounds i true)->Qe P md ops Q S n (Kch P md ops Q n rest) f (listed.setIfInBounds i true) (a.put oi.dst v) w)
  (hB:(Region.noSelect ops&&decide (n<ops.size)&&Region.sinkB md ops n&&Region.chainB md ops n&&decide (i<n)&&Region.free md ops listed i&&(Region.ready md ops listed).contains i)=true:=by kernel_rfl)
  (hQ : ∀c a w,Q (.panic c) (a.put oi.dst v) w->Q (.panic c) a w:=by exact λ_ _ _ h=>h):Qe P md ops Q S n (Kch P md ops Q n rest) (f+1) listed a w:=K7 hi hB hQ hy hS inv h
theorem tkS {n i f:Nat} {oi:Oper} {v:Value} {rest:List Oper} {listed:Array Bool} {a:Act} {w:World} (hi:ops[i]? = some oi) (hS:S w) (inv:HeadInv md ops n listed)
  (h:HeadInv md ops n (listed.setIfInBounds i true)->Qe P md ops Q S n (Kch P md ops Q n rest) f (listed.setIfInBounds i true) (a.put oi.dst v) w)
  (hy:YieldsIf P ops S oi v a:=by exact .inl ⟨by rfl,λW hW=>by go_simp⟩)
  (hB:(Region.noSelect ops&&decide (n<ops.size)&&Region.sinkB md ops n&&Region.chainB md ops n&&decide (i<n)&&Region.free md ops listed i&&(Region.ready md ops listed).contains i)=true:=by kernel_rfl)
  (hQ : ∀c a w,Q (.panic c) (a.put oi.dst v) w->Q (.panic c) a w:=by exact λ_ _ _ h=>h):Qe P md ops Q S n (Kch P md ops Q n rest) (f+1) listed a w:=K7 hi hB hQ hy hS inv h
end
end
end Go.Proofs.YtmhfccigejcphaaGreatDoor
