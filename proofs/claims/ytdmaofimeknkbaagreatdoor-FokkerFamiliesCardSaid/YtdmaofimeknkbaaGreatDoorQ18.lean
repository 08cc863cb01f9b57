/- Part 18 of the proof of the claim: contracts of the functions that it reaches, and plain laws; no condition. -/
import Derived.Test.YtdmaofimeknkbaaGreatDoorQ13
import Derived.Test.YtdmaofimeknkbaaGreatDoorQ17
import Derived.Test.YtdmaofimeknkbaaGreatDoorQ16
import Derived.Test.YtdmaofimeknkbaaGreatDoorQ12
set_option maxRecDepth 100000
set_option maxHeartbeats 20000000
namespace Go.Proofs.YtdmaofimeknkbaaGreatDoor
section
open Go.RowKit Go.Sort
theorem Tryz.infoLRat:(Tryz.prog.info? 32).map (λi=>(i.zero,i.size,i.bytes))=some (some (.slice none 0 0),1,24):=by kernel_rfl
theorem KhT {α:Type} (F:List α) (r:α) (n:Nat) (hn:n=F.length) (h:n<(F++[r]).length):(F++[r])[n]=r:=by
 subst hn;rw [List.getElem_append_right (Nat.le_refl _)];simp
def QG (n:Nat) (F:List (List Rat)):Prop := ∀r∈F,r.length=n
def hdQ:List (Nat×Nat)->List (List Rat)->List Value
 | a::ad,r::F=>xv r.length a.1 a.2::hdQ ad F
 | _,_=>[]
theorem Zy : ∀(ad:List (Nat×Nat)) (F:List (List Rat)),ad.length=F.length->(hdQ ad F).length=F.length
 | [],[],_=>rfl
 | [],_::_,h=>by simp at h
 | _::_,[],h=>by simp at h
 | a::ad,r::F,h=>by simp [hdQ,Zy ad F (by simpa using h)]
theorem Kbh : ∀(ad:List (Nat×Nat)) (F:List (List Rat)) (i:Nat) (h:i<ad.length) (h2:i<F.length),(hdQ ad F)[i]? = some (xv F[i].length ad[i].1 ad[i].2)
 | a::ad,r::F,0,_,_=>rfl
 | a::ad,r::F,i+1,h,h2=>by simpa [hdQ] using Kbh ad F i (by simpa using h) (by simpa using h2)
 | [],_,i,h,_=>by simp at h
 | _::_,[],i,_,h=>by simp at h
theorem Kbi : ∀(ad:List (Nat×Nat)) (F:List (List Rat)) (i:Nat) (a:Nat×Nat) (r:List Rat),hdQ (ad.set i a) (F.set i r)=(hdQ ad F).set i (xv r.length a.1 a.2)
 | [],[],i,a,r=>by simp [hdQ]
 | [],_::_,i,a,r=>by simp [hdQ]
 | b::ad,[],i,a,r=>by cases i<;>simp [hdQ]
 | b::ad,s::F,0,a,r=>by simp [hdQ]
 | b::ad,s::F,i+1,a,r=>by simp [hdQ,Kbi ad F i a r]
theorem Kha : ∀(ad:List (Nat×Nat)) (F:List (List Rat)) (a:Nat×Nat) (r:List Rat),ad.length=F.length->hdQ (ad++[a]) (F++[r])=hdQ ad F++[xv r.length a.1 a.2]
 | [],[],a,r,_=>rfl
 | [],_::_,a,r,h=>by simp at h
 | _::_,[],a,r,h=>by simp at h
 | b::ad,s::F,a,r,h=>by simp [hdQ,Kha ad F a r (by simpa using h)]
structure QgX (B:Nat) (w:World) (v:Value) (F:List (List Rat)) (ad:List (Nat×Nat)):Prop where
 len:ad.length=F.length
 own:w.ownsRow B 32 1 v F.length (hdQ ad F)
 row : ∀i (h:i<F.length) (h':i<ad.length),0<F[i].length->OwQ B w ad[i].1 ad[i].2 F[i]
 dis : ∀i j (hi:i<ad.length) (hj:j<ad.length) (h:i<F.length) (h':j<F.length),0<F[i].length->0<F[j].length->i≠j->ad[i].1≠ad[j].1
theorem QgX.nil (B:Nat) (w:World):QgX B w (.slice none 0 0) [] [] :=
 ⟨rfl,⟨rfl,.inl ⟨rfl,rfl⟩⟩,(λi h=>by simp at h),(λi j h=>by simp at h)⟩
theorem QgX.ext {B:Nat} {w w':World} {v:Value} {F:List (List Rat)} {ad:List (Nat×Nat)} (h:QgX B w v F ad) (he:Ext w w'):QgX B w' v F ad :=
 ⟨h.len,KU h.own he,λi a b c=>(h.row i a b c).ext he,h.dis⟩
theorem QgX.mono {B B':Nat} {w:World} {v:Value} {F:List (List Rat)} {ad:List (Nat×Nat)} (h:QgX B w v F ad) (hB:B'<=B):QgX B' w v F ad :=
 ⟨h.len,QV h.own hB,λi a b c=>(h.row i a b c).mono hB,h.dis⟩
theorem QgX.shape {B:Nat} {w:World} {v:Value} {F:List (List Rat)} {ad:List (Nat×Nat)} (h:QgX B w v F ad) : ∃ga cap,v = .slice ga F.length cap/\F.length<=cap/\(0<F.length -> ∃g,ga=some ⟨g,0,none⟩):=by
 rcases h.own.2 with ⟨rfl,h0⟩ | ⟨g,cap,cur,rfl,hb,hg,hn,hm,hs,ht⟩
 ·rw [h0];exact ⟨none,0,rfl,Nat.le_refl _,λh=>by omega⟩
 ·exact ⟨_,cap,rfl,hn,λ_=>⟨g,rfl⟩⟩
theorem QgX.outer {B:Nat} {w:World} {g cap:Nat} {F:List (List Rat)} {ad:List (Nat×Nat)} (h:QgX B w (slv g F.length cap) F ad):Kd 32 B w g cap (hdQ ad F):=by
 unfold Kd;rw [Zy _ _ h.len];exact h.own
theorem YW {B B':Nat} {w:World} {g cap gx cx:Nat} {xs:List Value} {ys:List Rat} (h:Kd 32 B w g cap xs) (h':OwQ B' w gx cx ys):gx≠g:=by
 intro e;exact Kd2 (u:=slv gx ys.length cx) (v:=slv g xs.length cap) h' h (by decide) (g:=gx) rfl (by rw [e];rfl)
theorem QgX.at {B:Nat} {w:World} {g cap n i:Nat} {F:List (List Rat)} {ad:List (Nat×Nat)} (h:QgX B w (slv g F.length cap) F ad) (hR:QG n F) (hn:0<n) (hi:i<F.length) :
  ∃gx cx,ad[i]? = some (gx,cx)/\w.cell? ⟨g,i,none⟩=some (slv gx n cx)/\OwQ B w gx cx (F.getD i [])/\gx≠g/\(F.getD i []).length=n:=by
 have hi':i<ad.length:=by rw [h.len];exact hi
 have hl:F[i].length=n:=hR _ (List.getElem_mem hi);have hO:=h.row i hi hi' (by omega);refine ⟨ad[i].1,ad[i].2,by rw [List.getElem?_eq_getElem hi'],?_,?_,YW h.outer hO,by rw [Ka hi];exact hl⟩
 ·have hg:=Kbh ad F i hi' hi;obtain ⟨hlt,he⟩:=List.getElem?_eq_some_iff.1 hg;rw [h.outer.cell (j:=i) hlt,he,hl,Qo hn]
 ·rw [Ka hi];exact hO
theorem QgX.wrote {B:Nat} {w w':World} {g cap i gx cx:Nat} {F:List (List Rat)} {ad:List (Nat×Nat)} {r:List Rat} (h:QgX B w (slv g F.length cap) F ad) (hi:i<F.length) (ha:ad[i]? = some (gx,cx)) (hr:r.length=(F.getD i []).length) (hr0:0<r.length)
  (hO:OwQ B w' gx cx r) (hC:Chg (λk=>k=gx) w w'):QgX B w' (slv g F.length cap) (F.set i r) ad:=by
 have hi':i<ad.length:=by rw [h.len];exact hi
 rw [Ka hi] at hr;rw [List.getElem?_eq_getElem hi'] at ha;have ea:=Option.some.inj ha;have hOi:=h.row i hi hi' (by omega)
 have hg:g≠gx:=by
  have:=YW h.outer hOi;rw [ea] at this;exact Ne.symm this
 have hOut:=hC.own hg h.outer
 have hh:hdQ ad (F.set i r)=hdQ ad F:=by
  have e:ad=ad.set i ad[i]:=(List.set_getElem_self hi').symm;have:=Kbi ad F i ad[i] r;rw [<-e] at this;rw [this];have hg2:=Kbh ad F i hi' hi;obtain ⟨hlt,he⟩:=List.getElem?_eq_some_iff.1 hg2;rw [hr,<-he,List.set_getElem_self]
 refine ⟨by rw [List.length_set];exact h.len,?_,λj hj hj' hj0 => ?_,λj k hj hk hj2 hk2 hj0 hk0 hjk => ?_⟩
 ·unfold Kd at hOut;rw [Zy _ _ h.len] at hOut;rw [List.length_set,hh];exact hOut
 ·rw [List.length_set] at hj
  by_cases hij:i=j
  ·subst hij;simp only [List.getElem_set_self];rw [ea];exact hO
  ·simp only [List.getElem_set_ne hij] at hj0 ⊢;have:=h.dis j i hj' hi' hj hi hj0 (by omega) (Ne.symm hij);rw [ea] at this;exact (h.row j hj hj' hj0).chg hC this
 ·rw [List.length_set] at hj2 hk2;refine h.dis j k hj hk hj2 hk2 ?_ ?_ hjk
  ·by_cases hij:i=j
   ·subst hij;omega
   ·simpa only [List.getElem_set_ne hij] using hj0
  ·by_cases hij:i=k
   ·subst hij;omega
   ·simpa only [List.getElem_set_ne hij] using hk0
theorem QgX.keep {B:Nat} {w w':World} {g cap:Nat} {F:List (List Rat)} {ad:List (Nat×Nat)} {R:Nat->Prop} (h:QgX B w (slv g F.length cap) F ad) (hC:Chg R w w') (hg : ¬R g) (ha : ∀i (h:i<ad.length) (h':i<F.length),0<F[i].length -> ¬R ad[i].1):QgX B w' (slv g F.length cap) F ad:=by
 have hOut:=hC.own hg h.outer;refine ⟨h.len,?_,λj hj hj' hj0=>(h.row j hj hj' hj0).chg hC (ha j hj' hj hj0),h.dis⟩;unfold Kd at hOut;rw [Zy _ _ h.len] at hOut;exact hOut
theorem QgX.swapped {B:Nat} {w:World} {g cap n i j gi ci gj cj:Nat} {F:List (List Rat)} {ad:List (Nat×Nat)} (h:QgX B w (slv g F.length cap) F ad) (hR:QG n F) (hn:0<n) (hi:i<F.length) (hj:j<F.length) (hai:ad[i]? = some (gi,ci)) (haj:ad[j]? = some (gj,cj)) :
  QgX B ((w.setCell ⟨g,i,none⟩ (slv gj n cj)).setCell ⟨g,j,none⟩ (slv gi n ci)) (slv g F.length cap) (sw2 F [] i j) (sw2 ad (0,0) i j)
   /\ w.grownBy ((w.setCell ⟨g,i,none⟩ (slv gj n cj)).setCell ⟨g,j,none⟩ (slv gi n ci)) (some g)/\QG n (sw2 F [] i j):=by
 have hi':i<ad.length:=by rw [h.len];exact hi
 have hj':j<ad.length:=by rw [h.len];exact hj
 have h1:=h.outer.set i (slv gj n cj);have h2:=h1.1.set j (slv gi n ci);have hG:=Kg h1.2 h2.2;have ei:ad.getD i (0,0)=(gi,ci):=by rw [List.getD_eq_getElem?_getD,hai];rfl
 have ej:ad.getD j (0,0)=(gj,cj):=by rw [List.getD_eq_getElem?_getD,haj];rfl
 have fi:(F.getD i []).length=n:=by rw [Ka hi];exact hR _ (List.getElem_mem hi)
 have fj:(F.getD j []).length=n:=by rw [Ka hj];exact hR _ (List.getElem_mem hj)
 have eh:hdQ (sw2 ad (0,0) i j) (sw2 F [] i j)=((hdQ ad F).set i (slv gj n cj)).set j (slv gi n ci):=by
  unfold sw2;rw [Kbi,Kbi,ei,ej,fi,fj,Qo hn,Qo hn]
 have hR2:QG n (sw2 F [] i j):=λs hs=>by
  obtain ⟨t,ht,rfl⟩:=List.getElem_of_mem hs;rw [KS F [] hi hj ht];exact hR _ (List.getElem_mem _)
 refine ⟨⟨by simp [h.len],?_,λt ht ht' ht0 => ?_,λt u ht hu ht2 hu2 ht0 hu0 htu => ?_⟩,hG,hR2⟩
 ·have:=h2.1;unfold Kd at this;rw [<-eh,Zy _ _ (by simp [h.len]),Qi] at this;rw [Qi];exact this
 ·rw [KS F [] hi hj ht] at ht0 ⊢;rw [KS ad (0,0) hi' hj' ht'];have ht2:t<F.length:=by simpa using ht
  have hO:=h.row (sg i j t) (Y5 hi hj ht2) (Y5 hi' hj' (by simpa using ht')) ht0;exact hO.other hG (YW h.outer hO)
 ·rw [KS F [] hi hj ht2] at ht0;rw [KS F [] hi hj hu2] at hu0;rw [KS ad (0,0) hi' hj' ht,KS ad (0,0) hi' hj' hu];exact h.dis _ _ _ _ (Y5 hi hj (by simpa using ht2)) (Y5 hi hj (by simpa using hu2)) ht0 hu0 (λe=>htu (Ki6 e))
section
variable {w:World} {ops:Array Oper} {rest:List Oper} {o:Oper} {a:Act} {Q:Exit->Act->World->Prop}
theorem KpG (hgd:o.guard=none) (s x:Operand) (ho:o.op = .call { callee := .builtin .append,args := #[s,x],argTypes := #[101,101] })
  {B:Nat} {v:Value} {F:List (List Rat)} {r:List Rat} {ad:List (Nat×Nat)} {g0 c0:Nat} (hs:a.eval s=v) (hown:QgX B w v F ad) {b:Nat} (hx:a.eval x = .slice (some ⟨b,0,none⟩) 1 1) (hc:w.cell? ⟨b,0,none⟩=some (xv r.length g0 c0)) (hr:0<r.length->OwQ B w g0 c0 r) (hnew:0<r.length -> ∀i (h:i<ad.length) (h':i<F.length),0<F[i].length->ad[i].1≠g0) (hl:F.length<=1000000000) (hB:B<=w.heap.size)
  (h : ∀g cap w',QgX B w' (slv g (F.length+1) cap) (F++[r]) (ad++[(g0,c0)])->Below B w w'->w.grownBy w' v.ownBlock->wpList Tryz.prog ops Q rest (a.put o.dst (slv g (F.length+1) cap)) w'):wpList Tryz.prog ops Q (o::rest) a w:=by
 obtain ⟨i0,hi,hz0,hz1,hz2⟩:=info_parts Tryz.infoLRat;obtain ⟨hlen,h2,h3,hdis⟩:=hown;refine wpList_append_lies w hgd s x 101 ho B 32 i0 _ 1 24 Tryz.underlying101 hi hz0 hz1 hz2 rfl (by omega) v F.length (hdQ ad F) hs h2 ⟨b,0,none⟩ 1 1 [xv r.length g0 c0] hx rfl ?_ ?_ (by omega) (by unfold maxLen;omega) (by omega) hB w.heap.size rfl ?_
 ·intro j u hj;have:j=0:=by have:=(List.getElem?_eq_some_iff.1 hj).1;simp at this;omega
  subst this;simp only [List.getElem?_cons_zero,Option.some.injEq] at hj;subst hj;simpa [Addr.add_lit] using hc
 ·intro u hu;simp only [List.mem_cons,List.not_mem_nil,or_false] at hu;subst hu;unfold xv;split<;>rfl
 ·intro g cap w' k1 k2 k3 k4;have hkeep : ∀{u cu:Nat} {l:List Rat},OwQ B w u cu l->OwQ B w' u cu l:=λhu=>Ks hu h2 (by decide) k2
  refine h g cap w' ⟨by simp [hlen],?_,λi hi1 hi2 hi0 => ?_,λi j hi1 hj1 hi2 hj2 hi0 hj0 hij => ?_⟩ (Below.grown (Below.refl _ _) k2 hB (λq hq=>(World.ownsRow.lt h2 q hq).1)) k2
  ·rw [List.length_append,Kha ad F (g0,c0) r hlen];exact k1
  ·rcases Nat.lt_or_ge i F.length with hlt | hge
   ·simp only [List.getElem_append_left hlt,List.getElem_append_left (show i<ad.length by omega)] at hi0 ⊢;exact hkeep (h3 i hlt (by omega) hi0)
   ·have hie:i=F.length:=by simp at hi1;omega
    subst hie;simp only [List.getElem_append_right (Nat.le_refl F.length),List.getElem_append_right (show ad.length<=F.length by omega),hlen,Nat.sub_self,List.getElem_cons_zero] at hi0 ⊢;exact hkeep (hr hi0)
  ·rw [List.length_append,List.length_singleton] at hi1 hj1 hi2 hj2
   rcases Nat.lt_or_ge i ad.length with hil | hig
   ·rw [List.getElem_append_left hil];rw [List.getElem_append_left (show i<F.length by omega)] at hi0
    rcases Nat.lt_or_ge j ad.length with hlt | hge
    ·rw [List.getElem_append_left hlt];rw [List.getElem_append_left (show j<F.length by omega)] at hj0;exact hdis i j (by omega) hlt (by omega) (by omega) hi0 hj0 hij
    ·have hje:j=ad.length:=by omega
     subst hje;rw [List.getElem_append_right (Nat.le_refl _)];rw [KhT F r _ hlen] at hj0;simp only [Nat.sub_self,List.getElem_cons_zero];exact hnew hj0 i hil (by omega) hi0
   ·have hie:i=ad.length:=by omega
    subst hie;rw [List.getElem_append_right (Nat.le_refl _),List.getElem_append_left (show j<ad.length by omega)];rw [List.getElem_append_left (show j<F.length by omega)] at hj0;rw [KhT F r _ hlen] at hi0;simp only [Nat.sub_self,List.getElem_cons_zero];exact Ne.symm (hnew hi0 j (by omega) (by omega) hj0)
end
theorem Y6 (f g h:Nat->Rat) (e : ∀i,h i=f i+g i) : ∀k,QL h k=QL f k+QL g k
 | 0=>by simp [QL];grind
 | k+1=>by
  rw [QL,QL,QL,Y6 f g h e k,e]
  grind
theorem KbB (q:Rat) (f:Nat->Rat) : ∀n,QL (λi=>q*f i) n=q*QL f n
 | 0=>by show (0:Rat)=q*0;grind
 | n+1=>by rw [QL,QL,KbB q f n];grind
theorem KbC {f:Nat->Rat} : ∀n,(∀i,i<n->f i=0)->QL f n=0
 | 0,_=>rfl
 | n+1,h=>by rw [QL,KbC n (λi hi=>h i (by omega)),h n (by omega)];grind
theorem KaE (f:Nat->Int) : ∀n,((KD f n:Int):Rat)=QL (λi=>((f i:Int):Rat)) n
 | 0=>rfl
 | n+1=>by rw [KD,QL,Rat.intCast_add,KaE f n]
theorem Kex {f:Nat->Rat} {k:Nat} : ∀n,k<n->(∀i,i<n->i≠k->f i=0)->QL f n=f k
 | n+1,hk,h=>by
  rw [QL]
  by_cases e:k=n
  ·subst e;rw [KbC k (λi hi=>h i (by omega) (by omega))];grind
  ·rw [Kex n (by omega) (λi hi h2=>h i (by omega) h2),h n (by omega) (λe2=>e e2.symm)];grind
abbrev Mq:=List (List Rat)
def qa (F:Mq) (i j:Nat):Rat:=(F.getD i []).getD j 0
def JR (n:Nat) (r:List Rat) (y:Nat->Rat):Rat:=QL (λj=>r.getD j 0*y j) n
def KcS (n:Nat) (F:Mq) (y:Nat->Rat):Prop := ∀i,i<F.length->JR n (F.getD i []) y=0
def Q2 (n:Nat) (F F':Mq):Prop:=F'.length=F.length /\ ∀y,KcS n F y↔KcS n F' y
theorem Q2.refl (n:Nat) (F:Mq):Q2 n F F:=⟨rfl,λ_=>Iff.rfl⟩
theorem Q2.trans {n:Nat} {F G H:Mq} (h:Q2 n F G) (k:Q2 n G H):Q2 n F H:=⟨k.1.trans h.1,λy=>(h.2 y).trans (k.2 y)⟩
theorem Zm (F:Mq) {k:Nat} (hk:k<F.length) (r:List Rat) (i:Nat):(F.set k r).getD i []=if i=k then r else F.getD i []:=by
 rw [List.getD_eq_getElem?_getD,List.getElem?_set]
 by_cases h:k=i
 ·subst h;rw [if_pos rfl,if_pos hk,if_pos rfl];rfl
 ·rw [if_neg h,if_neg (λe=>h e.symm),List.getD_eq_getElem?_getD]
theorem KdZ {α:Type} {f:Nat->α} {n t:Nat} (h:t<((List.range n).map f).length):((List.range n).map f)[t]=f t:=by simp
def ZI (r:List Rat) (p:Rat) (j:Nat):List Rat:=(List.range r.length).map λt=>if t<j then r.getD t 0/p else r.getD t 0
@[simp] theorem Yu (r:List Rat) (p:Rat) (j:Nat):(ZI r p j).length=r.length:=by simp [ZI]
theorem Kd8 {f:Nat->Rat} {n t:Nat}:((List.range n).map f).getD t 0=if t<n then f t else 0:=by
 rw [List.getD_eq_getElem?_getD,List.getElem?_map]
 by_cases h:t<n
 ·rw [List.getElem?_range h,if_pos h];rfl
 ·rw [List.getElem?_eq_none (by simpa using h),if_neg h];rfl
theorem KbZ {r:List Rat} {t:Nat} (h:r.length<=t):r.getD t 0=0:=by
 rw [List.getD_eq_getElem?_getD,List.getElem?_eq_none h];rfl
theorem Kao (r:List Rat) (p:Rat) (j t:Nat):(ZI r p j).getD t 0=if t<j then r.getD t 0/p else r.getD t 0:=by
 unfold ZI;rw [Kd8]
 by_cases h:t<r.length
 ·rw [if_pos h]
 ·rw [if_neg h,KbZ (by omega)];split
  ·grind
  ·rfl
theorem KdE {r:List Rat} {p:Rat} {j t:Nat} (h:t<(ZI r p j).length):(ZI r p j)[t]=if t<j then r.getD t 0/p else r.getD t 0:=KdZ (f:=λt=>if t<j then r.getD t 0/p else r.getD t 0) h
theorem Kfe (r:List Rat) (p:Rat):ZI r p 0=r:=by
 refine List.ext_getElem (by simp) λt h1 h2 => ?_
 simp [ZI,List.getD_eq_getElem?_getD,h2]
theorem KkI {r:List Rat} {p:Rat} {j:Nat} (_h:j<r.length):(ZI r p j).set j (r.getD j 0/p)=ZI r p (j+1):=by
 refine List.ext_getElem (by simp) λt h1 h2 => ?_
 rw [List.getElem_set,KdE]
 by_cases e:j=t
 ·subst e;rw [if_pos rfl,KdE,if_pos (by omega)]
 ·rw [if_neg e,KdE];split<;>split<;>first | rfl | omega
def Xj (r:List Rat) (f:Rat) (s:List Rat) (j:Nat):List Rat:=(List.range r.length).map λt=>if t<j then r.getD t 0-f*s.getD t 0 else r.getD t 0
@[simp] theorem KhZ (r:List Rat) (f:Rat) (s:List Rat) (j:Nat):(Xj r f s j).length=r.length:=by simp [Xj]
theorem Kck {r s:List Rat} (hs:s.length=r.length) (f:Rat) (j t:Nat):(Xj r f s j).getD t 0=if t<j then r.getD t 0-f*s.getD t 0 else r.getD t 0:=by
 unfold Xj;rw [Kd8]
 by_cases h:t<r.length
 ·rw [if_pos h]
 ·rw [if_neg h,KbZ (by omega),KbZ (r:=s) (by omega)];split
  ·grind
  ·rfl
theorem Kew {r s:List Rat} {f:Rat} {j t:Nat} (h:t<(Xj r f s j).length):(Xj r f s j)[t]=if t<j then r.getD t 0-f*s.getD t 0 else r.getD t 0:=KdZ (f:=λt=>if t<j then r.getD t 0-f*s.getD t 0 else r.getD t 0) h
theorem KfL (r:List Rat) (f:Rat) (s:List Rat):Xj r f s 0=r:=by
 refine List.ext_getElem (by simp) λt h1 h2 => ?_
 simp [Xj,List.getD_eq_getElem?_getD,h2]
theorem Klv (r s:List Rat) (j:Nat):Xj r 0 s j=r:=by
 refine List.ext_getElem (by simp) λt h1 h2 => ?_
 simp only [Xj,List.getElem_map,List.getElem_range,List.getD_eq_getElem?_getD,List.getElem?_eq_getElem h2,Option.getD_some];split
 ·grind
 ·rfl
theorem Klw {r s:List Rat} {f:Rat} {j:Nat} (_h:j<r.length):(Xj r f s j).set j (r.getD j 0-f*s.getD j 0)=Xj r f s (j+1):=by
 refine List.ext_getElem (by simp) λt h1 h2 => ?_
 rw [List.getElem_set,Kew]
 by_cases e:j=t
 ·subst e;rw [if_pos rfl,Kew,if_pos (by omega)]
 ·rw [if_neg e,Kew];split<;>split<;>first | rfl | omega
theorem Kml {n:Nat} {r:List Rat} {p:Rat} (y:Nat->Rat):JR n (ZI r p n) y=JR n r y/p:=by
 unfold JR;rw [Qt n (g:=λj=>(1/p)*(r.getD j 0*y j)) (λj hj=>by rw [Kao,if_pos hj];grind),KbB]
 grind
theorem Kmm {n:Nat} {r s:List Rat} {f:Rat} (hr:r.length=n) (hs:s.length=n) (y:Nat->Rat):JR n (Xj r f s n) y=JR n r y-f*JR n s y:=by
 unfold JR
 have e1:=Qt n (f:=λj=>(Xj r f s n).getD j 0*y j) (g:=λj=>r.getD j 0*y j+(-f)*(s.getD j 0*y j)) (λj hj=>by
  rw [Kck (by omega),if_pos hj];grind)
 have e2:=Y6 (λj=>r.getD j 0*y j) (λj=>(-f)*(s.getD j 0*y j)) (λj=>r.getD j 0*y j+(-f)*(s.getD j 0*y j)) (λ_=>rfl) n;rw [e1,e2,KbB]
 grind
theorem KhS {n:Nat} {F:Mq} {k:Nat} {r:List Rat} (hk:k<F.length) (h : ∀y,(∀i,i<F.length->i≠k->JR n (F.getD i []) y=0)->(JR n (F.getD k []) y=0↔JR n r y=0)):Q2 n F (F.set k r):=by
 refine ⟨by simp,λy=>⟨λhy i hi => ?_,λhy i hi => ?_⟩⟩
 ·rw [Zm F hk]
  by_cases e:i=k
  ·rw [if_pos e];exact (h y (λt ht _=>hy t ht)).1 (hy k hk)
  ·rw [if_neg e];exact hy i (by simpa using hi)
 ·have hy2 : ∀t,t<F.length->t≠k->JR n (F.getD t []) y=0:=λt ht hne=>by
   have:=hy t (by simpa using ht);rwa [Zm F hk,if_neg hne] at this
  by_cases e:i=k
  ·subst e;have:=hy i (by simpa using hi);rw [Zm F hk,if_pos rfl] at this;exact (h y hy2).2 this
  ·exact hy2 i hi e
theorem Knv {n:Nat} {F:Mq} {k:Nat} {p:Rat} (hk:k<F.length) (hp:p≠0):Q2 n F (F.set k (ZI (F.getD k []) p n)) :=
 KhS hk λy _=>by
  rw [Kml];constructor
  ·intro h;rw [h];grind
  ·intro h;have:JR n (F.getD k []) y=JR n (F.getD k []) y/p*p:=by grind
   rw [this,h];grind
theorem Knw {n:Nat} {F:Mq} {i k:Nat} {f:Rat} (hR:QG n F) (hi:i<F.length) (hk:k<F.length) (hne:i≠k):Q2 n F (F.set i (Xj (F.getD i []) f (F.getD k []) n)) :=
 KhS hi λy hy=>by
  have hl : ∀t,t<F.length->(F.getD t []).length=n:=λt ht=>by rw [List.getD_eq_getElem?_getD,List.getElem?_eq_getElem ht];exact hR _ (List.getElem_mem ht)
  rw [Kmm (hl i hi) (hl k hk),hy k hk (Ne.symm hne)];constructor
  ·intro h;rw [h];grind
  ·intro h;grind
theorem KfE {n:Nat} {F:Mq} {i j:Nat} (hi:i<F.length) (hj:j<F.length):Q2 n F (sw2 F [] i j):=by
 refine ⟨by simp,λy=>⟨λhy t ht => ?_,λhy t ht => ?_⟩⟩
 ·rw [Xe F [] hi hj];split
  ·exact hy i hi
  ·split
   ·exact hy j hj
   ·exact hy t (by simpa using ht)
 ·by_cases e1:t=i
  ·subst e1;have:=hy j (by simpa using hj);rwa [Xe F [] hi hj,if_pos rfl] at this
  ·by_cases e2:t=j
   ·subst e2;have:=hy i (by simpa using hi);rw [Xe F [] hi hj] at this
    by_cases e3:i=t
    ·exact absurd e3.symm e1
    ·rwa [if_neg e3,if_pos rfl] at this
   ·have:=hy t (by simpa using ht);rwa [Xe F [] hi hj,if_neg e2,if_neg e1] at this
def Kr (F:Mq) (n k c i:Nat):Mq:=(List.range F.length).map λt=>if t<i/\t≠k then Xj (F.getD t []) (qa F t c) (F.getD k []) n else F.getD t []
@[simp] theorem QX (F:Mq) (n k c i:Nat):(Kr F n k c i).length=F.length:=by simp [Kr]
theorem XB {F:Mq} {n k c i t:Nat} (ht:t<F.length):(Kr F n k c i).getD t []=if t<i/\t≠k then Xj (F.getD t []) (qa F t c) (F.getD k []) n else F.getD t []:=by
 unfold Kr;rw [List.getD_eq_getElem?_getD,List.getElem?_map,List.getElem?_range ht];rfl
theorem Jj {F:Mq} {n k c i t:Nat} (h:t<(Kr F n k c i).length):(Kr F n k c i)[t]=if t<i/\t≠k then Xj (F.getD t []) (qa F t c) (F.getD k []) n else F.getD t []:=KdZ (f:=λt=>if t<i/\t≠k then Xj (F.getD t []) (qa F t c) (F.getD k []) n else F.getD t []) h
theorem JT (F:Mq) (n k c:Nat):Kr F n k c 0=F:=by
 refine List.ext_getElem (by simp) λt h1 h2 => ?_
 simp [Kr,List.getD_eq_getElem?_getD,h2]
theorem JS {F:Mq} {n k c i:Nat} (hik:i≠k):(Kr F n k c i).set i (Xj (F.getD i []) (qa F i c) (F.getD k []) n)=Kr F n k c (i+1):=by
 refine List.ext_getElem (by simp) λt h1 h2 => ?_
 rw [List.getElem_set,Jj,Jj]
 by_cases e:i=t
 ·subst e;simp [hik]
 ·rw [if_neg e];have:(t<i/\t≠k)↔(t<i+1/\t≠k):=by omega
  simp only [this]
theorem XC {F:Mq} {n k c i:Nat} (h:i=k\/qa F i c=0):Kr F n k c i=Kr F n k c (i+1):=by
 refine List.ext_getElem (by simp) λt h1 h2 => ?_
 rw [Jj,Jj]
 by_cases e:t=i
 ·subst e
  rcases h with h | h
  ·simp [h]
  ·simp [h,Klv]
 ·have:(t<i/\t≠k)↔(t<i+1/\t≠k):=by omega
  simp only [this]
theorem Qh {n:Nat} {F:Mq} (h:QG n F) {i:Nat} (hi:i<F.length):(F.getD i []).length=n:=by
 rw [List.getD_eq_getElem?_getD,List.getElem?_eq_getElem hi];exact h _ (List.getElem_mem hi)
theorem Y0 {n:Nat} {F:Mq} (h:QG n F) {i:Nat} {r:List Rat} (hr:r.length=n):QG n (F.set i r):=λs hs=>by
 rcases List.mem_or_eq_of_mem_set hs with h1 | rfl
 ·exact h s h1
 ·exact hr
theorem Yx {F:Mq} {n k c i:Nat} (h:QG n F):QG n (Kr F n k c i):=λs hs=>by
 unfold Kr at hs;obtain ⟨t,ht,rfl⟩:=List.mem_map.1 hs;have ht2:=List.mem_range.1 ht;split
 ·rw [KhZ];exact Qh h ht2
 ·exact Qh h ht2
theorem KcA {F:Mq} {n k c:Nat} (h:QG n F) (hk:k<F.length) : ∀i,i<=F.length->Q2 n F (Kr F n k c i)
 | 0,_=>by rw [JT];exact Q2.refl n F
 | i+1,hi=>by
  refine Q2.trans (G:=Kr F n k c i) (KcA h hk i (by omega)) ?_
  by_cases e:i=k
  ·rw [XC (.inl e)];exact Q2.refl _ _
  ·rw [<-JS e];have h1:(Kr F n k c i).getD i []=F.getD i []:=by rw [XB (by omega),if_neg (by omega)]
   have h2:(Kr F n k c i).getD k []=F.getD k []:=by rw [XB hk,if_neg (λh=>h.2 rfl)]
   have h3:=Knw (n:=n) (F:=Kr F n k c i) (i:=i) (k:=k) (f:=qa F i c) (Yx h) (by simp;omega) (by simpa using hk) e;rw [h1,h2] at h3;exact h3
structure RrI (m n c:Nat) (F:Mq) (lead:List Nat):Prop where
 rect:QG n F
 len:F.length=m
 le:lead.length<=m
 lt : ∀t,t<lead.length->lead.getD t 0<c
 inc : ∀t u,t<u->u<lead.length->lead.getD t 0<lead.getD u 0
 unit : ∀t,t<lead.length -> ∀i,i<m->qa F i (lead.getD t 0)=if i=t then 1 else 0
 zero : ∀i,lead.length<=i->i<m -> ∀j,j<c->qa F i j=0
theorem RrI.start {m n:Nat} {F:Mq} (hR:QG n F) (hl:F.length=m):RrI m n 0 F [] :=
 ⟨hR,hl,by simp,λt h=>by simp at h,λt u _ h=>by simp at h,λt h=>by simp at h,λi _ _ j hj=>by omega⟩
theorem RrI.skip {m n c:Nat} {F:Mq} {lead:List Nat} (h:RrI m n c F lead) (hz : ∀i,lead.length<=i->i<m->qa F i c=0):RrI m n (c+1) F lead :=
 ⟨h.rect,h.len,h.le,λt ht=>by have:=h.lt t ht;omega,h.inc,h.unit,λi h1 h2 j hj=>by
  rcases Nat.lt_or_ge j c with h3 | h3
  ·exact h.zero i h1 h2 j h3
  ·obtain rfl:j=c:=by omega
   exact hz i h1 h2⟩
def JF (F:Mq) (n k c:Nat):Mq:=Kr (F.set k (ZI (F.getD k []) (qa F k c) n)) n k c F.length
theorem KoQ {F:Mq} {n k c i j:Nat} (hR:QG n F) (hk:k<F.length) (hi:i<F.length) (hj:j<n) :
  qa (JF F n k c) i j=if i=k then qa F k j/qa F k c else qa F i j-qa F i c*(qa F k j/qa F k c):=by
 have hl:=Qh hR hk;have h1:(F.set k (ZI (F.getD k []) (qa F k c) n)).getD k []=ZI (F.getD k []) (qa F k c) n:=by rw [Zm F hk,if_pos rfl]
 unfold qa JF;rw [XB (by simpa using hi)]
 by_cases e:i=k
 ·subst e;rw [if_neg (λh=>h.2 rfl),if_pos rfl,h1,Kao,if_pos hj];rfl
 ·have h2:(F.set k (ZI (F.getD k []) (qa F k c) n)).getD i []=F.getD i []:=by rw [Zm F hk,if_neg e]
  have h3:qa (F.set k (ZI (F.getD k []) (qa F k c) n)) i c=qa F i c:=by
   show ((F.set k (ZI (F.getD k []) (qa F k c) n)).getD i []).getD c 0=_;rw [h2];rfl
  rw [if_pos ⟨hi,e⟩,if_neg e,h1,h3,Kck (by rw [h2,Yu,hl,Qh hR hi]),if_pos hj,h2,Kao,if_pos hj];rfl
theorem RrI.pivot {m n c:Nat} {F:Mq} {lead:List Nat} (h:RrI m n c F lead) (hk:lead.length<m) (hc:c<n) (hp:qa F lead.length c≠0):RrI m n (c+1) (JF F n lead.length c) (lead++[c]):=by
 have hkF:lead.length<F.length:=by rw [h.len];exact hk
 have hl:=Qh h.rect hkF;have hRs:QG n (F.set lead.length (ZI (F.getD lead.length []) (qa F lead.length c) n)):=Y0 h.rect (by rw [Yu,hl]);have hat : ∀i j,i<m->j<n->qa (JF F n lead.length c) i j=if i=lead.length then qa F lead.length j/qa F lead.length c else qa F i j-qa F i c*(qa F lead.length j/qa F lead.length c):=λi j hi hj=>KoQ h.rect hkF (by rw [h.len];exact hi) hj
 have hln : ∀t,t<lead.length->(lead++[c]).getD t 0=lead.getD t 0:=λt ht=>by
  rw [List.getD_eq_getElem?_getD,List.getElem?_append_left ht,List.getD_eq_getElem?_getD]
 have hlc:(lead++[c]).getD lead.length 0=c:=by
  rw [List.getD_eq_getElem?_getD,List.getElem?_append_right (Nat.le_refl _)];simp
 have hpj : ∀j,j<c->qa F lead.length j=0:=λj hj=>h.zero _ (Nat.le_refl _) hk j hj
 refine ⟨Yx hRs,by unfold JF;rw [QX,List.length_set,h.len],by simp;omega,λt ht => ?_,λt u htu hu => ?_,λt ht i hi => ?_,λi h1 h2 j hj => ?_⟩
 ·rcases Nat.lt_or_ge t lead.length with h3 | h3
  ·rw [hln t h3];have:=h.lt t h3;omega
  ·obtain rfl:t=lead.length:=by simp at ht;omega
   rw [hlc];omega
 ·rw [List.length_append,List.length_singleton] at hu;rw [hln t (by omega)]
  rcases Nat.lt_or_ge u lead.length with h3 | h3
  ·rw [hln u h3];exact h.inc t u htu h3
  ·obtain rfl:u=lead.length:=by omega
   rw [hlc];exact h.lt t (by omega)
 ·rcases Nat.lt_or_ge t lead.length with h3 | h3
  ·have hlt:=h.lt t h3;rw [hln t h3,hat i _ hi (by omega),hpj _ hlt];have hu:=h.unit t h3
   by_cases e:i=lead.length
   ·rw [if_pos e,if_neg (by omega)];grind
   ·rw [if_neg e,hu i hi];grind
  ·obtain rfl:t=lead.length:=by simp at ht;omega
   rw [hlc,hat i c hi hc]
   by_cases e:i=lead.length
   ·rw [if_pos e,if_pos e];grind
   ·rw [if_neg e,if_neg e];grind
 ·rw [List.length_append,List.length_singleton] at h1;have e:i≠lead.length:=by omega
  rw [hat i j h2 (by omega),if_neg e]
  rcases Nat.lt_or_ge j c with h3 | h3
  ·rw [h.zero i (by omega) h2 j h3,hpj j h3];grind
  ·obtain rfl:j=c:=by omega
   grind
theorem Kfr {F:Mq} {n k c:Nat} (hR:QG n F) (hk:k<F.length) (hp:qa F k c≠0):Q2 n F (JF F n k c):=by
 unfold JF;refine (Knv hk hp).trans ?_;have:=KcA (n:=n) (F:=F.set k (ZI (F.getD k []) (qa F k c) n)) (k:=k) (c:=c) (Y0 hR (by rw [Yu,Qh hR hk])) (by simpa using hk) F.length (by simp);exact this
theorem RrI.swap {m n c:Nat} {F:Mq} {lead:List Nat} (h:RrI m n c F lead) {a:Nat} (ha:lead.length<=a) (ham:a<m):RrI m n c (sw2 F [] lead.length a) lead:=by
 have hk:lead.length<F.length:=by rw [h.len];omega
 have haF:a<F.length:=by rw [h.len];exact ham
 have hrow : ∀i,(sw2 F [] lead.length a).getD i []=if i=a then F.getD lead.length [] else if i=lead.length then F.getD a [] else F.getD i []:=λi=>Xe F [] hk haF i []
 refine ⟨λr hr => ?_,by rw [Qi,h.len],h.le,h.lt,h.inc,λt ht i hi => ?_,λi h1 h2 j hj => ?_⟩
 ·obtain ⟨t,ht,rfl⟩:=List.getElem_of_mem hr;rw [KS F [] hk haF ht];exact h.rect _ (List.getElem_mem _)
 ·unfold qa;rw [hrow];have hu:=h.unit t ht;unfold qa at hu
  by_cases e1:i=a
  ·rw [if_pos e1,if_neg (by omega),hu _ (by omega),if_neg (by omega)]
  ·rw [if_neg e1]
   by_cases e2:i=lead.length
   ·rw [if_pos e2,if_neg (by omega),hu _ ham,if_neg (by omega)]
   ·rw [if_neg e2];exact hu i hi
 ·unfold qa;rw [hrow];have hz:=h.zero;unfold qa at hz;split
  ·exact hz _ (Nat.le_refl _) (by omega) j hj
  ·split
   ·exact hz _ ha ham j hj
   ·exact hz i h1 h2 j hj
theorem KhM {c t:Nat} (h:t<c):(List.range c).getD t 0=t:=by
 rw [List.getD_eq_getElem?_getD,List.getElem?_range h];rfl
theorem RrI.rng {m n c:Nat} {F:Mq} (h:RrI m n c F (List.range c)) {t i:Nat} (ht:t<c) (hi:i<m):qa F i t=if i=t then 1 else 0:=by
 have:=h.unit t (by simpa using ht) i hi;rwa [KhM ht] at this
theorem Key {f:Nat->Rat} {a b n:Nat} (ha:a<n) (hb:b<n) (hab:a≠b) (h : ∀i,i<n->i≠a->i≠b->f i=0):QL f n=f a+f b:=by
 have h1:=Y6 (λi=>if i=a then f a else 0) (λi=>if i=b then f b else 0) (λi=>(if i=a then f a else 0)+(if i=b then f b else 0)) (λ_=>rfl) n
 rw [Qt n (g:=λi=>(if i=a then f a else 0)+(if i=b then f b else 0)) (λi hi=>by
  by_cases e1:i=a
  ·subst e1;rw [if_pos rfl,if_neg hab];grind
  ·by_cases e2:i=b
   ·subst e2;rw [if_neg e1,if_pos rfl];grind
   ·rw [if_neg e1,if_neg e2,h i hi e1 e2];grind),h1,
  Kex n ha (λi _ hne=>by rw [if_neg hne]),Kex n hb (λi _ hne=>by rw [if_neg hne]),if_pos rfl,if_pos rfl]
theorem RrI.must {n c:Nat} {F0 F:Mq} (hnon : ∀y:Nat->Rat,KcS (n+1) F0 y->y n=0 -> ∀j,j<n->y j=0) (h:RrI n (n+1) c F (List.range c)) (hc:c<n) (hS:Q2 (n+1) F0 F) : ∃k,c<=k/\k<n/\qa F k c≠0:=by
 refine Classical.byContradiction λhno => ?_
 have hz : ∀k,c<=k->k<n->qa F k c=0:=λk h1 h2=>Classical.byContradiction λh3=>hno ⟨k,h1,h2,h3⟩
 have hy:KcS (n+1) F (λj=>if j=c then 1 else if j<c then -qa F j c else 0):=λi hi=>by
  rw [h.len] at hi;show QL (λj=>qa F i j*_) (n+1)=0
  by_cases hic:i<c
  ·rw [Key (a:=i) (b:=c) (by omega) (by omega) (by omega) (λj hj h1 h2 => ?_)]
   ·rw [if_neg (by omega),if_pos hic,if_pos rfl,h.rng hic hi,if_pos rfl];grind
   ·rw [if_neg h2];split
    ·rename_i h3;rw [h.rng h3 hi,if_neg (λe=>h1 e.symm)];grind
    ·grind
  ·refine KbC _ λj hj => ?_
   by_cases h2:j=c
   ·subst h2;rw [hz i (by omega) hi];grind
   ·rw [if_neg h2];split
    ·rename_i h3;rw [h.rng h3 hi,if_neg (by omega)];grind
    ·grind
 have h1:=hnon _ ((hS.2 _).2 hy) (by rw [if_neg (by omega),if_neg (by omega)]) c hc;rw [if_pos rfl] at h1;exact absurd h1 (by decide)
theorem RrI.solves {n:Nat} {F0 F:Mq} (h:RrI n (n+1) n F (List.range n)) (hl:F0.length=n) (hS:Q2 (n+1) F0 F) {i:Nat} (hi:i<n):QL (λj=>qa F0 i j*qa F j n) n=qa F0 i n:=by
 have hy:KcS (n+1) F (λj=>if j=n then -1 else qa F j n):=λt ht=>by
  rw [h.len] at ht;show QL (λj=>qa F t j*_) (n+1)=0;rw [Key (a:=t) (b:=n) (by omega) (by omega) (by omega) (λj hj h1 h2 => ?_)]
  ·rw [if_neg (by omega),if_pos rfl,h.rng ht ht,if_pos rfl];grind
  ·rw [if_neg h2,h.rng (by omega) ht,if_neg (λe=>h1 e.symm)];grind
 have h1:=(hS.2 _).2 hy i (by omega)
 have h2:JR (n+1) (F0.getD i []) (λj=>if j=n then -1 else qa F j n)=QL (λj=>qa F0 i j*qa F j n) n+qa F0 i n * -1:=by
  show QL (λj=>qa F0 i j*(if j=n then -1 else qa F j n)) n+qa F0 i n*(if n=n then -1 else qa F n n)=_;rw [if_pos rfl,Qt n (g:=λj=>qa F0 i j*qa F j n) (λj hj=>by rw [if_neg (by omega)])]
 rw [h2] at h1
 grind
theorem RrI.free {m n f:Nat} {F:Mq} {lead:List Nat} (h:RrI m n n F lead) (hl:lead.length<=1) (hf:f<n) (hfl : ∀a∈lead,f≠a) :
  ∃y:Nat->Rat,KcS n F y/\y f=1 /\ ∀j,j≠f->(∀a∈lead,j≠a)->y j=0:=by
 match lead,h,hl,hfl with
 | [],h,_,_ =>
  refine ⟨λj=>if j=f then 1 else 0,λi hi => ?_,if_pos rfl,λj hj _=>if_neg hj⟩;rw [h.len] at hi;show QL (λj=>qa F i j*_) n=0;refine KbC _ λj hj => ?_
  rw [h.zero i (by simp) hi j hj];grind
 | [a],h,_,hfl =>
  have hfa:=hfl a (by simp);have ha:a<n:=h.lt 0 (by simp)
  refine ⟨λj=>if j=f then 1 else if j=a then -qa F 0 f else 0,λi hi => ?_,if_pos rfl,λj hj hja=>by
   show (if j=f then (1:Rat) else if j=a then -qa F 0 f else 0)=0
   rw [if_neg hj,if_neg (hja a (by simp))]⟩
  rw [h.len] at hi;show QL (λj=>qa F i j*_) n=0;rw [Key (a:=f) (b:=a) hf ha hfa (λj hj h1 h2=>by rw [if_neg h1,if_neg h2];grind)];rw [if_pos rfl,if_neg (Ne.symm hfa),if_pos rfl];have hu:qa F i a=if i=0 then 1 else 0:=h.unit 0 (by simp) i hi
  rw [hu]
  by_cases e:i=0
  ·subst e;rw [if_pos rfl];grind
  ·rw [if_neg e,h.zero i (by simp;omega) hi f hf];grind
 | a::b::l,_,hl,_=>simp at hl
theorem RrI.full {m n:Nat} {F:Mq} {lead:List Nat} (h:RrI m n n F lead) (hm:m+1=n) (hm2:m<=2) (hker : ∀y z:Nat->Rat,KcS n F y->KcS n F z -> ∀i j,i<n->j<n->y i*z j=y j*z i):lead.length=m:=by
 refine Nat.le_antisymm h.le (Nat.not_lt.1 λhlt => ?_);have hl1:lead.length<=1:=by omega
 have hfr : ∃f1 f2,f1<n/\f2<n/\f1≠f2/\(∀a∈lead,f1≠a) /\ ∀a∈lead,f2≠a:=by
  match lead,hl1,hlt with
  | [],_,hlt=>exact ⟨0,1,by simp at hlt;omega,by simp at hlt;omega,by omega,by simp,by simp⟩
  | [a],_,hlt =>
   simp only [List.length_singleton] at hlt;refine ⟨if a=0 then 1 else 0,if a=2 then 1 else 2,?_,?_,?_,?_,?_⟩
   ·split<;>omega
   ·split<;>omega
   ·split<;>split<;>omega
   ·intro b hb;rw [List.mem_singleton.1 hb];split<;>omega
   ·intro b hb;rw [List.mem_singleton.1 hb];split<;>omega
  | a::b::l,hl,_=>simp at hl
 obtain ⟨f1,f2,h1,h2,hne,k1,k2⟩:=hfr;obtain ⟨y,y1,y2,y3⟩:=h.free hl1 h1 k1;obtain ⟨z,z1,z2,z3⟩:=h.free hl1 h2 k2;have:=hker y z y1 z1 f1 f2 h1 h2;rw [y2,z2,y3 f2 (Ne.symm hne) k2] at this;have e:(1:Rat)=0:=by grind
 exact absurd e (by decide)
theorem QC {a b c:Rat} (hc:c≠0) (h:c*a=c*b):a=b:=by
 have h1:c*(a-b)=0:=by grind
 rcases Rat.mul_eq_zero.1 h1 with h2 | h2
 ·exact absurd h2 hc
 ·grind
theorem Kq0 {p q y0 y1 z0 z1:Rat} (hp:p≠0\/q≠0) (h1:p*y0+q*y1=0) (h2:p*z0+q*z1=0):y0*z1=y1*z0:=by
 rcases hp with h | h
 ·exact QC h (by grind)
 ·exact QC h (by grind)
theorem KqQ {u0 u1 u2 t0 t1 t2 y0 y1 y2:Rat} (h1:u0*y0+u1*y1+u2*y2=0) (h2:t0*y0+t1*y1+t2*y2=0):(u1*t2-u2*t1)*y1=(u2*t0-u0*t2)*y0:=by
 have e1:t2*(u0*y0+u1*y1+u2*y2)=0:=by rw [h1];grind
 have e2:u2*(t0*y0+t1*y1+t2*y2)=0:=by rw [h2];grind
 grind
theorem KqR {u0 u1 u2 t0 t1 t2 y0 y1 y2:Rat} (h1:u0*y0+u1*y1+u2*y2=0) (h2:t0*y0+t1*y1+t2*y2=0):(u1*t2-u2*t1)*y2=(u0*t1-u1*t0)*y0:=by
 have e1:t1*(u0*y0+u1*y1+u2*y2)=0:=by rw [h1];grind
 have e2:u1*(t0*y0+t1*y1+t2*y2)=0:=by rw [h2];grind
 grind
theorem KoE {v:Nat->Rat} {n:Nat} {y z:Nat->Rat} (hv:v 0≠0) (hy : ∀i,i<n->v 0*y i=v i*y 0) (hz : ∀i,i<n->v 0*z i=v i*z 0) : ∀i j,i<n->j<n->y i*z j=y j*z i:=λi j hi hj=>by
 refine QC hv (QC hv ?_);have e1:=hy i hi;have e2:=hz j hj;have e3:=hy j hj;have e4:=hz i hi;have a1:v 0*(v 0*(y i*z j))=(v 0*y i)*(v 0*z j):=by grind
 have a2:v 0*(v 0*(y j*z i))=(v 0*y j)*(v 0*z i):=by grind
 rw [a1,a2,e1,e2,e3,e4]
 grind
end
end Go.Proofs.YtdmaofimeknkbaaGreatDoor
