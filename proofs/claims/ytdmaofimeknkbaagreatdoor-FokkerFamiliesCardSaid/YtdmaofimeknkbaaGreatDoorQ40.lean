/- Part 40 of the proof of the claim: contracts of the functions that it reaches, and plain laws; no condition. -/
import Derived.Test.YtdmaofimeknkbaaGreatDoorQ27
import Derived.Test.YtdmaofimeknkbaaGreatDoorQ35
import Derived.Test.YtdmaofimeknkbaaGreatDoorQ38
import Derived.Test.YtdmaofimeknkbaaGreatDoorQ17
import Derived.Test.YtdmaofimeknkbaaGreatDoorQ14
import Derived.Test.YtdmaofimeknkbaaGreatDoorQ26
import Derived.Test.YtdmaofimeknkbaaGreatDoorQ13
set_option maxRecDepth 100000
set_option maxHeartbeats 20000000
namespace Go.Proofs.YtdmaofimeknkbaaGreatDoor
section
open Go.RowKit Go.Sort
open Lib (hid)
theorem Ye {n:Nat} {M:Mx} (h:M.length+1=n):(bsM n M).length=n:=by
 unfold bsM;rw [List.length_cons,h]
theorem KdI {n:Nat} {M:Mx} (h:M.length+1=n) (X:List Int) (i:Nat):(eqR n M X i).length=n+1:=by
 unfold eqR;rw [List.length_append,List.length_map,Ye h];rfl
theorem Xn (n:Nat) (M:Mx) (X:List Int):(eqF n M X).length=n:=by simp [eqF]
theorem Kf9 {n:Nat} (M:Mx) (X:List Int) {i:Nat} (hi:i<n):(eqF n M X).getD i []=eqR n M X i:=by
 unfold eqF;rw [List.getD_eq_getElem?_getD,List.getElem?_map,List.getElem?_range hi];rfl
theorem Kms {n:Nat} {M:Mx} (h:M.length+1=n) (X:List Int):QG (n+1) (eqF n M X):=λr hr=>by
 obtain ⟨i,_,rfl⟩:=List.mem_map.1 hr;exact KdI h X i
theorem Kiw {n:Nat} {M:Mx} (h:M.length+1=n) (X:List Int) {i j:Nat} (hi:i<n) (hj:j<n):qa (eqF n M X) i j=((eM (bsM n M) j i:Int):Rat):=by
 unfold qa;rw [Kf9 M X hi];unfold eqR eM;have hb:=Ye h;rw [List.getD_eq_getElem?_getD,List.getElem?_append_left (by rw [List.length_map];omega),List.getElem?_map,List.getElem?_eq_getElem (by omega),List.getD_eq_getElem?_getD (l:=bsM n M),List.getElem?_eq_getElem (by omega)];rfl
theorem Kg4 {n:Nat} {M:Mx} (h:M.length+1=n) (X:List Int) {i:Nat} (hi:i<n):qa (eqF n M X) i n=((X.getD i 0:Int):Rat):=by
 unfold qa;rw [Kf9 M X hi];unfold eqR;have hb:=Ye h;rw [List.getD_eq_getElem?_getD,List.getElem?_append_right (by rw [List.length_map];omega),List.length_map,hb,Nat.sub_self];rfl
theorem Koi {n:Nat} {M:Mx} {v:List Int} (h:BkM n M v) (X:List Int) (y:Nat->Rat) (hy:KcS (n+1) (eqF n M X) y) (h0:y n=0) : ∀j,j<n->y j=0:=by
 refine h.non (c:=y) λi hi => ?_
 have h1:JR (n+1) ((eqF n M X).getD i []) y=0:=hy i (by rw [Xn];exact hi);have h2:JR (n+1) ((eqF n M X).getD i []) y=QL (λj=>qa (eqF n M X) i j*y j) n+qa (eqF n M X) i n*y n:=rfl;rw [h2,h0,Qt n (g:=λj=>((eM (bsM n M) j i:Int):Rat)*y j) (λj hj=>by rw [Kiw h.len X hi hj])] at h1;rw [<-h1];grind
theorem Koj {n:Nat} {M:Mx} {F:Mq} (hl:M.length+1=n) (X:List Int) (hI:RrI n (n+1) n F (List.range n)) (hS:Q2 (n+1) (eqF n M X) F):CoV n M (λi=>((X.getD i 0:Int):Rat)) (λj=>qa F j n):=λi hi=>by
 have h1:=hI.solves (Xn n M X) hS hi;rw [Kg4 hl X hi,Qt n (g:=λj=>((eM (bsM n M) j i:Int):Rat)*qa F j n) (λj hj=>by rw [Kiw hl X hi hj])] at h1;exact h1
theorem KpT {n:Nat} {M:Mx} {X:List Int} (hM : ∀r∈M,∀z∈r,z.natAbs<=8) (hX : ∀z∈X,-1000000000<=z/\z<=1000000000):BdQ 31 (eqF n M X):=λr hr x hx=>by
 obtain ⟨i,_,rfl⟩:=List.mem_map.1 hr;have fin : ∀z:Int,-1000000000<=z/\z<=1000000000->NdQ 31 (z:Rat):=λz hz=>NdQ.of_int (Kv (E:=30) (by omega))
 have gt : ∀(l:List Int),(∀z∈l,-1000000000<=z/\z<=1000000000) -> ∀i,-1000000000<=l.getD i 0/\l.getD i 0<=1000000000:=λl hl i=>by
  rw [List.getD_eq_getElem?_getD]
  by_cases h:i<l.length
  ·rw [List.getElem?_eq_getElem h];exact hl _ (List.getElem_mem h)
  ·rw [List.getElem?_eq_none (by omega)];simp
 unfold eqR at hx
 rcases List.mem_append.1 hx with h1 | h1
 ·obtain ⟨s,hs,rfl⟩:=List.mem_map.1 h1;refine fin _ (gt s (λz hz => ?_) i)
  rcases List.mem_cons.1 hs with rfl | h2
  ·unfold Xh at hz
   rcases List.mem_or_eq_of_mem_set hz with h3 | rfl
   ·rw [List.eq_of_mem_replicate h3];omega
   ·omega
  ·have:=hM s h2 z hz;omega
 ·rw [List.mem_singleton.1 h1];exact fin _ (gt X hX i)
theorem Knq (c:Nat):List.range c++[c]=List.range (c+1):=(List.range_succ).symm
def ZL (G:Mq) (i j:Nat):Mq:=(List.range G.length).map λt=>if t<i then G.getD t [] else if t=i then (G.getD t []).take j else []
@[simp] theorem JL (G:Mq) (i j:Nat):(ZL G i j).length=G.length:=by simp [ZL]
theorem Kkt {G:Mq} {i j t:Nat} (ht:t<G.length):(ZL G i j).getD t []=if t<i then G.getD t [] else if t=i then (G.getD t []).take j else []:=by
 unfold ZL;rw [List.getD_eq_getElem?_getD,List.getElem?_map,List.getElem?_range ht];rfl
theorem YP {G:Mq} {i j t:Nat} (h:t<(ZL G i j).length):(ZL G i j)[t]=if t<i then G.getD t [] else if t=i then (G.getD t []).take j else []:=by simp [ZL]
theorem KfZ {G:Mq} {i j:Nat} (hi:i<G.length):(ZL G i j).getD i []=(G.getD i []).take j:=by
 rw [Kkt hi,if_neg (by omega),if_pos rfl]
theorem Kkv {G:Mq} {i j:Nat} (hj:j<(G.getD i []).length):(ZL G i j).set i ((G.getD i []).take j++[(G.getD i []).getD j 0])=ZL G i (j+1):=by
 refine List.ext_getElem (by simp) λt h1 h2 => ?_
 rw [List.getElem_set,YP,YP]
 by_cases e:i=t
 ·subst e;rw [if_pos rfl,if_neg (by omega),if_pos rfl,List.take_succ_eq_append_getElem hj,List.getD_eq_getElem?_getD (l:=G.getD i []),List.getElem?_eq_getElem hj];rfl
 ·rw [if_neg e,if_neg (show ¬t=i from λh=>e h.symm),if_neg (show ¬t=i from λh=>e h.symm)]
theorem Kku {G:Mq} {i j:Nat} (hj:(G.getD i []).length<=j):ZL G i j=ZL G (i+1) 0:=by
 refine List.ext_getElem (by simp) λt h1 h2 => ?_
 rw [YP,YP]
 by_cases e:t=i
 ·subst e;rw [if_neg (by omega),if_pos rfl,if_pos (by omega),List.take_of_length_le hj]
 ·by_cases e2:t<i
  ·rw [if_pos e2,if_pos (by omega)]
  ·rw [if_neg e2,if_neg e,if_neg (by omega)];split<;>simp
theorem Kip (G:Mq):ZL G 0 0=List.replicate G.length []:=by
 refine List.ext_getElem (by simp) λt h1 h2 => ?_
 rw [YP,List.getElem_replicate,if_neg (by omega)];split<;>simp
theorem Kl1 (G:Mq):ZL G G.length 0=G:=by
 refine List.ext_getElem (by simp) λt h1 h2 => ?_
 rw [YP,if_pos h2,List.getD_eq_getElem?_getD,List.getElem?_eq_getElem h2];rfl
section
variable {B g cap:Nat} {F:Mq} {ad:List (Nat×Nat)} {w w' w0:World}
def hvX (F:Mq) (ad:List (Nat×Nat)) (i:Nat):Value:=xv (F.getD i []).length (ad.getD i (0,0)).1 (ad.getD i (0,0)).2
theorem QgX.hv (h:QgX B w (slv g F.length cap) F ad) {i:Nat} (hi:i<F.length):w.cell? ⟨g,i,none⟩=some (hvX F ad i)/\SzV B w (hvX F ad i) (F.getD i []):=by
 have hi':i<ad.length:=by rw [h.len];exact hi
 have hg:=Kbh ad F i hi' hi;obtain ⟨hlt,he⟩:=List.getElem?_eq_some_iff.1 hg
 have e:hvX F ad i=xv F[i].length ad[i].1 ad[i].2:=by
  unfold hvX;rw [Ka hi,List.getD_eq_getElem?_getD,List.getElem?_eq_getElem hi'];rfl
 refine ⟨by rw [h.outer.cell (j:=i) hlt,he,e],?_⟩;rw [e,Ka hi]
 rcases Nat.eq_zero_or_pos F[i].length with h0 | h0
 ·have:F[i]=[]:=List.eq_nil_of_length_eq_zero h0;rw [this];exact SzV.nil B w
 ·rw [Qo h0];exact h.row i hi hi' h0
theorem QgX.grow (h:QgX B w (slv g F.length cap) F ad) {i gx cx:Nat} {r:List Rat} (hi:i<F.length) (hG:w.grownBy w' (hvX F ad i).ownBlock) (hr0:0<r.length) (hO:OwQ B w' gx cx r) (hne:(hvX F ad i).ownBlock=some gx\/gx=w.heap.size) :
  Hid (QgX B (w'.setCell ⟨g,i,none⟩ (slv gx r.length cx)) (slv g F.length cap) (F.set i r) (ad.set i (gx,cx)))/\Hid (w'.grownBy (w'.setCell ⟨g,i,none⟩ (slv gx r.length cx)) (some g))/\w'.frozen? ⟨g,i,none⟩=false/\B<=g/\w'.cell? ⟨g,i,none⟩=some (hvX F ad i):=by
 have hi':i<ad.length:=by rw [h.len];exact hi
 have e:hvX F ad i=xv F[i].length ad[i].1 ad[i].2:=by
  unfold hvX;rw [Ka hi,List.getD_eq_getElem?_getD,List.getElem?_eq_getElem hi'];rfl
 have hrow:=(h.hv hi).2;have hOut:Kd 32 B w' g cap (hdQ ad F):=Ks h.outer hrow (by decide) hG
 have hblk : ∀q,(hvX F ad i).ownBlock=some q->0<F[i].length/\q=ad[i].1:=λq hq=>by
  rw [e] at hq
  rcases Nat.eq_zero_or_pos F[i].length with h0 | h0
  ·rw [h0,Kko] at hq;simp [Value.ownBlock] at hq
  ·rw [Qo h0] at hq;simp [Value.ownBlock] at hq;exact ⟨h0,hq.symm⟩
 have hothers : ∀j (hj:j<F.length) (hj':j<ad.length),0<F[j].length->j≠i->OwQ B w' ad[j].1 ad[j].2 F[j]:=λj hj hj' hj0 hji=>by
  have hOj:=h.row j hj hj' hj0
  cases hb:(hvX F ad i).ownBlock with
  | none=>rw [hb] at hG;exact hOj.ext (KR hG)
  | some q =>
   rw [hb] at hG;obtain ⟨h0,rfl⟩:=hblk q hb;exact hOj.other hG (h.dis j i hj' hi' hj hi hj0 h0 hji)
 have hnew : ∀j (hj':j<ad.length) (hj:j<F.length),0<F[j].length->j≠i->ad[j].1≠gx:=λj hj' hj hj0 hji=>by
  rcases hne with h1 | h1
  ·obtain ⟨h0,rfl⟩:=hblk gx h1;exact h.dis j i hj' hi' hj hi hj0 h0 hji
  ·have:=(h.row j hj hj' hj0).lt.2;omega
 have h1:=hOut.set i (slv gx r.length cx)
 refine ⟨hid ⟨by simp [h.len],?_,λj hj hj' hj0 => ?_,λj k hj hk hj2 hk2 hj0 hk0 hjk => ?_⟩,hid h1.2,hOut.frozen i,hOut.lt.1,by
  have hg:=Kbh ad F i hi' hi;obtain ⟨hlt,he⟩:=List.getElem?_eq_some_iff.1 hg
  rw [hOut.cell (j:=i) hlt,he,e]⟩
 ·have:=h1.1;unfold Kd at this;rw [show slv gx r.length cx=xv r.length (gx,cx).1 (gx,cx).2 from (Qo hr0 _ _).symm,<-Kbi,Zy _ _ (by simp [h.len]),List.length_set] at this;rw [List.length_set,show slv gx r.length cx=xv r.length (gx,cx).1 (gx,cx).2 from (Qo hr0 _ _).symm];exact this
 ·rw [List.length_set] at hj hj'
  by_cases hij:i=j
  ·subst hij;simp only [List.getElem_set_self];exact hO.other h1.2 (YW hOut hO)
  ·simp only [List.getElem_set_ne hij] at hj0 ⊢;have hOj:=hothers j hj hj' hj0 (Ne.symm hij);exact hOj.other h1.2 (YW hOut hOj)
 ·rw [List.length_set] at hj hk hj2 hk2
  by_cases hij:i=j
  ·subst hij;simp only [List.getElem_set_ne hjk] at hk0;simp only [List.getElem_set_self,List.getElem_set_ne hjk];exact Ne.symm (hnew k hk hk2 hk0 (Ne.symm hjk))
  ·simp only [List.getElem_set_ne hij] at hj0 ⊢
   by_cases hik:i=k
   ·subst hik;simp only [List.getElem_set_self];exact hnew j hj hj2 hj0 hjk
   ·simp only [List.getElem_set_ne hik] at hk0 ⊢;exact h.dis j k hj hk hj2 hk2 hj0 hk0 hjk
def KaN (b:Nat) (w:World):Prop:=b<=w.heap.size
theorem KaN.to {b:Nat} {w w':World} (h:KaN b w) (k:w.heap.size<=w'.heap.size):KaN b w':=Nat.le_trans h k
structure FkM (B g cap n b:Nat) (F:Mq) (ad:List (Nat×Nat)) (w:World):Prop where
 rect:QG n F
 grid:QgX B w (slv g F.length cap) F ad
 low : ∀p∈ad,p.1<b
variable {n b:Nat}
theorem FkM.ext (h:FkM B g cap n b F ad w) (he:Ext w w'):FkM B g cap n b F ad w':=⟨h.rect,h.grid.ext he,h.low⟩
theorem FkM.of (hG:QgX B w (slv g F.length cap) F ad) (hR:QG n F) (hn:0<n):FkM B g cap n w.heap.size F ad w :=
 ⟨hR,hG,λp hp=>by
  obtain ⟨i,hi,rfl⟩:=List.getElem_of_mem hp;have hi2:i<F.length:=by rw [<-hG.len];exact hi
  exact (hG.row i hi2 hi (by rw [hR _ (List.getElem_mem hi2)];exact hn)).lt.2⟩
theorem FkM.el (h:FkM B g cap n b F ad w) {i j:Nat} (hi:i<F.length) (hj:j<n) :
  ∃gx cx,ad[i]? = some (gx,cx)/\w.cell? ⟨g,i,none⟩=some (slv gx n cx)/\w.cell? ⟨gx,j*2,none⟩=some (I (qa F i j).num)/\w.cell? ⟨gx,j*2+1,none⟩=some (I (qa F i j).den)/\gx≠g/\gx<b:=by
 obtain ⟨gx,cx,h1,h2,h3,h4,h5⟩:=h.grid.el h.rect hi hj;exact ⟨gx,cx,h1,h2,h3,h4,h5,h.low _ (YB h1)⟩
theorem FkM.room (h:FkM B g cap n b F ad w) (hn:0<n) {i gx cx:Nat} (hi:i<F.length) (ha:ad[i]? = some (gx,cx)):n<=cx:=by
 obtain ⟨_,_,k1,_,hO,_,hl⟩:=h.grid.at h.rect hn hi;rw [ha] at k1;injection k1 with k1
 injection k1 with q1 q2
 subst q1 q2;have:=hO.cap;omega
theorem FkM.put (h:FkM B g cap n b F ad w) {i j:Nat} (hi:i<F.length) (hj:j<n) {gx cx:Nat} (ha:ad[i]? = some (gx,cx)) (r:Rat) :
  w.frozen? ⟨gx,j*2,none⟩=false/\w.frozen? ⟨gx,j*2+1,none⟩=false /\
   Hid (FkM B g cap n b (F.set i ((F.getD i []).set j r)) ad ((w.setCell ⟨gx,j*2,none⟩ (I r.num)).setCell ⟨gx,j*2+1,none⟩ (I r.den))) /\
   Hid (w.grownBy ((w.setCell ⟨gx,j*2,none⟩ (I r.num)).setCell ⟨gx,j*2+1,none⟩ (I r.den)) (some gx))/\B<=gx/\gx<b:=by
 obtain ⟨f0,f1,h1,h2,h3⟩:=h.grid.put h.rect hi hj ha r;refine ⟨f0,f1,hid ⟨Y0 h.rect (by rw [List.length_set,Qh h.rect hi]),?_,h.low⟩,h2,h3,h.low _ (YB ha)⟩;rw [List.length_set];exact h1.out
theorem FkM.swap (h:FkM B g cap n b F ad w) (hn:0<n) {i j gi ci gj cj:Nat} (hi:i<F.length) (hj:j<F.length) (hai:ad[i]? = some (gi,ci)) (haj:ad[j]? = some (gj,cj)) :
  Hid (FkM B g cap n b (sw2 F [] i j) (sw2 ad (0,0) i j) ((w.setCell ⟨g,i,none⟩ (slv gj n cj)).setCell ⟨g,j,none⟩ (slv gi n ci))) /\
   w.grownBy ((w.setCell ⟨g,i,none⟩ (slv gj n cj)).setCell ⟨g,j,none⟩ (slv gi n ci)) (some g)/\w.frozen? ⟨g,i,none⟩=false/\w.frozen? ⟨g,j,none⟩=false/\B<=g:=by
 obtain ⟨h1,h2,h3⟩:=h.grid.swapped h.rect hn hi hj hai haj;have hO:=h.grid.outer;exact ⟨hid ⟨h3,by rw [Qi];exact h1,λp hp=>h.low p (Kh2 (by rw [h.grid.len];exact hi) (by rw [h.grid.len];exact hj) hp)⟩,h2,hO.frozen _,hO.frozen _,hO.lt.1⟩
theorem FkM.mid (h:FkM B g cap n b F ad w) {i j gj cj:Nat} (hj:j<F.length) (kj:w.cell? ⟨g,j,none⟩=some (slv gj n cj)):(w.setCell ⟨g,i,none⟩ (slv gj n cj)).cell? ⟨g,j,none⟩=some (slv gj n cj):=by
 obtain ⟨h1,_⟩:=h.grid.outer.set i (slv gj n cj);have hl:=Zy _ _ h.grid.len;have h2:=h.grid.outer.cell (j:=j) (by omega);rw [h1.cell (j:=j) (by rw [List.length_set];omega),List.getElem_set];split
 ·rfl
 ·rw [<-h2];exact kj
structure FkI (B g cap n q E b c:Nat) (F0 F:Mq) (ad:List (Nat×Nat)) (w:World):Prop where
 mem:FkM B g cap q b F ad w
 red:RrI n q c F (List.range c)
 same:Q2 q F0 F
 bd:BdQ (bnd E c) F
variable {E c q:Nat} {F0:Mq}
theorem FkI.bds {cols:Nat} (h:FkI B g cap n q E b c F0 F ad w) (hc:c<cols) (h1:1<=E) (hb:(cols+6)*bnd E cols+1<=100000000) : ∀i j,NdQ 10000000 (qa F i j):=by
 have h4:6*bnd E cols<=(cols+6)*bnd E cols:=Nat.mul_le_mul_right _ (by omega);have h6:6*bnd E c+1<=bnd E cols:=ZM E (show c+1<=cols by omega);exact λi j=>(h.bd.qa (Xw h1 c) i j).mono (by omega)
theorem FkI.ext (h:FkI B g cap n q E b c F0 F ad w) (he:Ext w w'):FkI B g cap n q E b c F0 F ad w':=⟨h.mem.ext he,h.red,h.same,h.bd⟩
theorem FkI.swap {a:Nat} (h:FkI B g cap n q E b c F0 F ad w) (ha:c<=a) (han:a<n) (hm:FkM B g cap q b (sw2 F [] c a) (sw2 ad (0,0) c a) w'):FkI B g cap n q E b c F0 (sw2 F [] c a) (sw2 ad (0,0) c a) w':=by
 have hl:=h.red.len;have h1:c<F.length:=by omega
 have h2:a<F.length:=by omega
 have h3:=h.red.swap (a:=a) (by rw [List.length_range];exact ha) han;rw [List.length_range] at h3;exact ⟨hm,h3,h.same.trans (KfE h1 h2),h.bd.swap h1 h2⟩
theorem FkI.piv (h:FkI B g cap n q E b c F0 F ad w) (h1:1<=E) (hc:c<n) (hcq:c<q) (hp:qa F c c≠0) (hm:FkM B g cap q b (JF F q c c) ad w'):FkI B g cap n q E b (c+1) F0 (JF F q c c) ad w':=by
 have hkF:c<F.length:=by rw [h.red.len];exact hc
 have h3:=h.red.pivot (by rw [List.length_range];exact hc) hcq (by rw [List.length_range];exact hp);rw [List.length_range,Knq] at h3;exact ⟨hm,h3,h.same.trans (Kfr h.red.rect hkF hp),h.bd.pivot (Xw h1 c) hp⟩
theorem FkI.must {M:Mx} {vl X:List Int} (h:FkI B g cap n q E b c (eqF n M X) F ad w) (hB:BkM n M vl) (hq:q=n+1) (hc:c<n) : ∃k,c<=k/\k<n/\qa F k c≠0:=by
 subst hq;exact h.red.must (λy hy h0=>Koi hB X y hy h0) hc h.same
theorem KgK {G:Mq} {i j gx cx:Nat} (h:QgX B w (slv g n n) (ZL G i j) ad) (hGn:G.length=n) (hi:i<n) (hj:j<(G.getD i []).length) (hG:w.grownBy w' (hvX (ZL G i j) ad i).ownBlock) (hO:OwQ B w' gx cx ((ZL G i j).getD i []++[(G.getD i []).getD j 0])) (hne:(hvX (ZL G i j) ad i).ownBlock=some gx\/gx=w.heap.size) :
  Hid (QgX B (w'.setCell ⟨g,i,none⟩ (slv gx (j+1) cx)) (slv g n n) (ZL G i (j+1)) (ad.set i (gx,cx)))/\Hid (w'.grownBy (w'.setCell ⟨g,i,none⟩ (slv gx (j+1) cx)) (some g))/\w'.frozen? ⟨g,i,none⟩=false/\B<=g/\w'.cell? ⟨g,i,none⟩=some (hvX (ZL G i j) ad i):=by
 have hb:(ZL G i j).length=n:=by rw [JL,hGn]
 have hl:((ZL G i j).getD i []++[(G.getD i []).getD j 0]).length=j+1:=by
  rw [KfZ (by omega),List.length_append,List.length_take,List.length_singleton];omega
 have h2:QgX B w (slv g (ZL G i j).length n) (ZL G i j) ad:=by rw [hb];exact h
 obtain ⟨k1,k2,k3,k4,k5⟩:=h2.grow (i:=i) (by rw [hb];exact hi) hG (by rw [hl];omega) hO hne;rw [hl] at k1 k2;rw [hb] at k1;refine ⟨hid ?_,k2,k3,k4,k5⟩;have:=k1.out;rw [KfZ (by omega),Kkv hj] at this;exact this
theorem KdY (e:Value) (n:Nat):(madeCells #[e] n).toList=List.replicate n e:=by
 refine List.ext_getElem? λi => ?_
 rw [List.getElem?_replicate]
 by_cases h:i<n
 ·rw [if_pos h];simp [madeCells,h,Nat.mod_one]
 ·rw [if_neg h];simp [madeCells];omega
theorem KjQ : ∀k:Nat,hdQ (List.replicate k (0,0)) (List.replicate k [])=List.replicate k (.slice none 0 0)
 | 0=>rfl
 | k+1=>by rw [List.replicate_succ,List.replicate_succ,hdQ,KjQ k,List.replicate_succ];rfl
theorem Kkw {G:Mq} {gb:Nat} (h:w.ownsRow B 32 1 (slv gb n n) n (madeCells (Value.slice none 0 0).cells (n*1)).toList) (hGn:G.length=n):QgX B w (slv gb n n) (ZL G 0 0) (List.replicate n (0,0)):=by
 rw [Kip,hGn];refine ⟨by simp,?_,λi h1 _ h0 => ?_,λi j h1 _ h2 _ h0 => ?_⟩
 ·rw [KjQ,List.length_replicate];rw [show (Value.slice none 0 0).cells = #[.slice none 0 0] from rfl,KdY,Nat.mul_one] at h;exact h
 ·simp at h0
 ·simp at h0
end
section
variable {w:World} {ops:Array Oper} {rest:List Oper} {o:Oper} {a:Act} {Q:Exit->Act->World->Prop}
end
section
variable {w:World} {ops:Array Oper} {o:Oper} {a:Act} {K:Act->World->Prop} {Q:Exit->Act->World->Prop} {E:Prop}
theorem ZK (hgd:o.guard=none) (s x:Operand) (t:TypeId) (ht:Tryz.prog.underlying t=some (.slice 47)) (ho:o.op = .call { callee := .builtin .append,args := #[s,x],argTypes := #[t,t] })
  {B:Nat} {v:Value} {l:List Rat} {r:Rat} (hs:a.eval s=v) (hown:SzV B w v l) {b:Nat} (hx:a.eval x = .slice (some ⟨b,0,none⟩) 1 1) (c0:w.cell? ⟨b,0,none⟩=some (I r.num)) (c1:w.cell? ⟨b,1,none⟩=some (I r.den)) (hl:l.length<=1000000000) (hB:B<=w.heap.size)
  (h : ∀g cap w',OwQ B w' g cap (l++[r])->Below B w w'->w.grownBy w' v.ownBlock->(v.ownBlock=some g\/g=w.heap.size)->K (a.put o.dst (slv g (l.length+1) cap)) w'):if Region.wanted o (yielded ops a.tmps)=true then Oper.wp Tryz.prog o a w K Q else E:=by
 obtain ⟨i0,hi,hz0,hz1,hz2⟩:=info_parts Tryz.infoRat;refine step_append_lies w hgd s x t ho B 47 i0 _ 2 32 ht hi hz0 hz1 hz2 rfl (by omega) v l.length (szc l) hs hown ⟨b,0,none⟩ 1 1 [I r.num,I r.den] hx rfl ?_ ?_ (by omega) (by unfold maxLen;omega) (by omega) hB w.heap.size rfl ?_
 ·intro j u hj;rw [Lib.add_plain,Nat.zero_add]
  match j with
  | 0=>simp at hj;subst hj;exact c0
  | 1=>simp at hj;subst hj;exact c1
  | j+2=>simp at hj
 ·intro u hu;simp only [List.mem_cons,List.not_mem_nil,or_false] at hu
  rcases hu with rfl | rfl<;>rfl
 ·intro g cap w' k1 k2 k3 k4;refine h g cap w' ?_ (Below.grown (Below.refl _ _) k2 hB (λq hq=>(World.ownsRow.lt hown q hq).1)) k2 k3;unfold OwQ;rw [Kh4,List.length_append];exact k1
end
abbrev bkv (n cp m cu gm:Nat) (sp:Option Addr) (vo:Value):Value := .agg #[.slice sp n cp,.slice (some ⟨gm,0,none⟩) m cu,vo]
structure FkB (w:World) (n cp m cu gm:Nat) (sp:Option Addr) (vo:Value) (P:List Int) (M:Mx) (O:List Rat) (vl:List Int):Prop where
 hP:KT w (.slice sp n cp) P
 hPl:P.length=n
 hpr:KlP P
 hM:KJ w (.slice (some ⟨gm,0,none⟩) m cu) M
 hO:SzR w vo O
 hOl:O.length=M.length
 hOn : ∀x∈O,NdQ 100 x
 hOb : ∀j,-12<=QQ O j/\QQ O j<=12
 hB:BkM n M vl
theorem FkB.ext {w w':World} {n cp m cu gm:Nat} {sp:Option Addr} {vo:Value} {P:List Int} {M:Mx} {O:List Rat} {vl:List Int} (h:FkB w n cp m cu gm sp vo P M O vl) (he:Ext w w'):FkB w' n cp m cu gm sp vo P M O vl :=
 ⟨h.hP.ext he,h.hPl,h.hpr,h.hM.ext he,h.hO.ext he,h.hOl,h.hOn,h.hOb,h.hB⟩
theorem FkB.ml {w:World} {n cp m cu gm:Nat} {sp:Option Addr} {vo:Value} {P:List Int} {M:Mx} {O:List Rat} {vl:List Int} (h:FkB w n cp m cu gm sp vo P M O vl):m=M.length:=by
 obtain ⟨_,_,_,_,_,e,_⟩:=h.hM;injection e
theorem Kgk {w:World} {n cp m cu gm:Nat} {sp:Option Addr} {vo:Value} {P:List Int} {M:Mx} {O:List Rat} {vl:List Int} (h:FkB w n cp m cu gm sp vo P M O vl) (hL:Laid w) :
  Calls Tryz.prog 25 #[bkv n cp m cu gm sp vo] w (Kim w (.slice sp n cp) (.slice (some ⟨gm,0,none⟩) m cu) vo vl):=by
 have hsh:=hid (λW (hW:Ext w W)=>Kem (w:=W) (vo:=vo) (h.hP.ext hW) h.hPl h.hpr (h.hM.ext hW) h.hB (hL.ext hW));have hml:=h.ml;have hMl:=h.hB.len;have hn:=h.hB.hn;obtain ⟨so,go,oo,co,rfl,hcO,hsO,hOc⟩:=h.hO;have hOl:O.length=m:=by rw [h.hOl,hml]
 have HL:=hid hL;have hfc:=hid (λi (hi:i<O.length) W (hW:Ext w W)=>KiB (n:=O[i].num) (d:=O[i].den) (by have:=(h.hOn _ (List.getElem_mem hi)).1;omega) (by have:=(h.hOn _ (List.getElem_mem hi)).2;omega) (den_pos' _) O[i].reduced (w:=W) (hL.ext hW));have HOc:=hid hOc;have HOl:=hid hOl;have HX:=hid (KcV w 34 (.slice sp n cp) (.slice (some ⟨gm,0,none⟩) m cu) (.slice so O.length co));rw [hOl] at HX hcO hsO hsh ⊢;have hm2:m<=2:=by omega
 have hm0:0<m:=by omega
 obtain rfl:=hsO hm0;have hE0:Ext w (w.alloc (.cells #[.slice sp n cp,.slice (some ⟨gm,0,none⟩) m cu,.slice (some ⟨go,oo,none⟩) m co] 34)):=(Ext.refl w).alloc _;obtain ⟨b1,hb1⟩ : ∃b1,b1=w.heap.size:=⟨_,rfl⟩
 rw [show Kd 34 w.heap.size (w.alloc (.cells #[.slice sp n cp,.slice (some ⟨gm,0,none⟩) m cu,.slice (some ⟨go,oo,none⟩) m co] 34)) w.heap.size 3 [.slice sp n cp,.slice (some ⟨gm,0,none⟩) m cu,.slice (some ⟨go,oo,none⟩) m co]=Kd 34 w.heap.size (w.alloc (.cells #[.slice sp n cp,.slice (some ⟨gm,0,none⟩) m cu,.slice (some ⟨go,oo,none⟩) m co] 34)) b1 3 [.slice sp n cp,.slice (some ⟨gm,0,none⟩) m cu,.slice (some ⟨go,oo,none⟩) m co] by rw [hb1]] at HX;clear h hL hml hMl hn hOl hOc hsO
 go_enter Tryz.func25,Tryz.ntmps25
 go_upto_region 1 with fail;rw [<-hb1];clear hb1;generalize w.alloc (.cells #[.slice sp n cp,.slice (some ⟨gm,0,none⟩) m cu,.slice (some ⟨go,oo,none⟩) m co] 34)=W0 at *;obtain ⟨a0,a1,a2⟩:=Xk HX.out;go_wp2_with fail;refine (hsh.out _ hE0).mono ?_;rintro e W1 ⟨bq,vv,rfl,hO,hR,hE1⟩;have a0:=hE1.cell a0;have a1:=hE1.cell a1;have a2:=hE1.cell a2;have e1:=hE0.trans hE1;have HO:=hid (hO.mono hE0.size);have HR:=hid hR;clear hO hR hE1 hE0 hsh HX;go_wp2_with fail
 go_loopw [26] (λidx wr => ∃i:Nat,i<=m/\idx = .int .i64 i/\Ext W1 wr) (λidx _=>m-(intOf idx).toNat)
 case atStart=>exact ⟨0,by omega,by go_num,Ext.refl _⟩
 case round =>
  obtain ⟨i,hi,rfl,hE⟩:=hrel;generalize wr=Y at *
  by_cases him:i<m
  ·have hii:(i:Int)<(m:Int):=by omega
   have hiO:i<O.length:=by rw [HOl.out];exact him
   obtain ⟨c0,c1⟩:=HOc.out i hiO;have hf:=hid (λW (hW:Ext Y W)=>hfc.out i hiO W (e1.trans (hE.trans hW)));obtain ⟨o,ho⟩ : ∃o,o=O[i]:=⟨_,rfl⟩
   rw [<-ho] at c0 c1 hf;have c0:=(e1.trans hE).cell c0;have c1:=(e1.trans hE).cell c1;have eA:Ext Y (Y.alloc (.cells #[I o.num,I o.den] 47)):=(Ext.refl Y).alloc _;clear ho;go_wp2_with fail;refine (hf.out _ eA).mono ?_;rintro e Z ⟨rfl,hEZ⟩;go_wp2_with fail;go_roundw
   case rel=>exact ⟨i+1,by omega,by go_num,hE.trans (eA.trans hEZ)⟩
   case measure=>simp [intOf]<;>omega
  ·obtain rfl:m=i:=by omega
   have hres:=hid (show Kim w (.slice sp n cp) (.slice (some ⟨gm,0,none⟩) m cu) (.slice (some ⟨go,oo,none⟩) m co) vl (.returned (.tuple #[.pointer (some ⟨bq,0,none⟩),.int .i64 0])) Y from ⟨bq,vv,rfl,HO.out.ext hE,HR.out.ext hE,e1.trans hE⟩);go_wp2_with fail;go_ret2;exact hres.out
theorem Kg9 {n:Int} (h:I64 n) {w:World} (hL:Laid w):Calls Tryz.prog 112 #[.int .i64 n] w λe w'=>e = .returned (RV (n:Rat))/\Ext w w':=by
 have hof:=λX (hX:Ext w X)=>Kc8 (n:=n) (d:=1) h (by omega) (by omega) (w:=X) (hL.ext hX)
 have hq:qmk n 1=qR (n:Rat):=by
  rw [Kbt (by omega)]
  congr 1
  grind
 obtain ⟨e1,e2⟩:=Kd7 hq;rw [e1,e2] at hof;have Hof:=hid hof;have HB0:=Zg w (.string ⟨#[]⟩) (.string ⟨#[]⟩);obtain ⟨b,hb⟩ : ∃b,b=w.heap.size:=⟨_,rfl⟩
 obtain ⟨r,hr⟩ : ∃r:Rat,r=(n:Rat):=⟨_,rfl⟩
 rw [<-hr] at Hof ⊢;clear hof hq e1 e2 hL h hr
 go_enter Tryz.func112,Tryz.ntmps112
 go_upto_region 1 with fail;rw [<-hb] at HB0 ⊢;have Hb:=hid hb;clear hb;have eA:Ext w (w.alloc (.cells #[.string ⟨#[]⟩,.string ⟨#[]⟩] 47)):=(Ext.refl w).alloc _;generalize w.alloc (.cells #[.string ⟨#[]⟩,.string ⟨#[]⟩] 47)=X0 at *;go_wp2_with fail;refine (Hof.out _ eA).mono ?_;rintro e X ⟨rfl,hE1⟩;have H1:=HB0.ext hE1;have hEX:=eA.trans hE1;have HBox:=Zg X (I r.num) (I r.den);have eB:Ext X (X.alloc (.cells #[I r.num,I r.den] 47)):=(Ext.refl X).alloc _;have H2:=H1.ext eB;obtain ⟨c0,c1,_,_⟩:=Ky HBox;obtain ⟨m0,m1,f0,f1⟩:=Ky H2;obtain ⟨H3,hE3,_⟩:=ZW H2 (hEX.trans eB) (by have:=Hb.out;omega) (I r.num) (I r.den);obtain ⟨r0,r1,_,_⟩:=Ky H3;clear HB0 H1 H2 H3 HBox Hof;go_upto_region 2 with fail;generalize X.alloc (.cells #[I r.num,I r.den] 47)=Y at *;go_wp2_with fail;exact bodyPost_ret (v:=RV r) (by simp [results,Tryz.results112,go_sem,r0,r1]) rfl ⟨rfl,hE3⟩
theorem Ki3 {w:World} {n:Nat} (hn:n<=64) :
  Calls Tryz.prog 113 #[.int .i64 n] w λe w' => ∃g,e = .returned (.tuple #[slv g n n,.int .i64 0])/\Kd 3 w.heap.size w' g n (is (List.replicate n 0))/\Ext w w':=by
 obtain ⟨i0,hi,hz0,hz1,hz2⟩:=info_parts Tryz.infoInt;have h1 : ¬(n:Int)<0:=by omega
 have h2 : ¬(n:Int)>64:=by omega
 have h3 : ¬(64:Int)<(n:Int):=by omega
 go_enter Tryz.func113,Tryz.ntmps113
 go_wp2_with (at_make;refine wpList_make_full _ rfl _ _ 38 rfl w.heap.size 3 i0 (.int .i64 0) 1 Tryz.underlying38 hi hz0 hz1 .i64 .i64 _ _ n rfl rfl (by omega) (by omega) (by rw [hz2];omega) (by unfold maxLen;omega) (Nat.le_refl _) ?_;intro w1 hown1 hgrow1)
 have hE1:=KR hgrow1;have hb0:Kd 3 w.heap.size w1 w.heap.size n (is (List.replicate n 0)):=J7 (KbO hown1) (by simp);have Hb:=hid hb0;clear hb0 hown1 hgrow1;go_wp2_with fail;go_ret2;exact ⟨_,rfl,Hb.out,hE1⟩
theorem Keh {w:World} {n i:Nat} (hn:n<=64) (hi:i<n) :
  Calls Tryz.prog 71 #[.int .i64 n,.int .i64 i] w λe w' => ∃g,e = .returned (.tuple #[slv g n n,.int .i64 0])/\Kd 3 w.heap.size w' g n (is (Xh n i))/\Ext w w':=by
 have hz:=hid (Ki3 (w:=w) hn);have h1 : ¬(i:Int)<0:=by omega
 have h2 : ¬(i:Int)>=(n:Int):=by omega
 have h3 : ¬(n:Int)<=(i:Int):=by omega
 have h4:(i:Int)<(n:Int):=by omega
 go_enter Tryz.func71,Tryz.ntmps71
 go_wp2_with fail;refine hz.out.mono ?_;rintro e w1 ⟨g,rfl,hO,hE1⟩;have hcl:=hO.cell (j:=i) (by simpa using hi);have hfz:=hO.frozen i;obtain ⟨hO2,hG⟩:=hO.set i (.int .i64 1);rw [<-YO] at hO2;have hE2:=Kb hE1 hG hO.lt.1;have Hq:=hid (And.intro hO2 hE2);clear hz hO hO2 hE2 hG;go_wp2_with fail;go_ret2;exact ⟨g,rfl,Hq.out.1,Hq.out.2⟩
theorem Kjl {B:Nat} {w:World} {v:Value} {F:Mx} {vs:List Value} (h1:vs.length=F.length) (h2:w.ownsRow B 38 1 v F.length vs) (hr : ∀i (_:i<F.length) (h':i<vs.length),KT w vs[i] F[i]):KJ w v F:=by
 rcases h2.2 with ⟨rfl,h0⟩ | ⟨g,cap,cur,rfl,hb,hg,hn,hm,hs,ht⟩
 ·have:F=[]:=List.eq_nil_of_length_eq_zero h0;subst this;have hv:vs=[]:=List.eq_nil_of_length_eq_zero h1;subst hv;exact ⟨none,0,0,0,[],rfl,Nat.le_refl _,rfl,Sl.nil _ _ _ _,hr⟩
 ·have ho:Kd 38 B w g cap vs:=by unfold Kd;rw [h1];exact h2
  exact ⟨_,g,0,cap,vs,rfl,hn,h1,ho.sl,hr⟩
section
variable {w:World} {ops:Array Oper} {rest:List Oper} {o:Oper} {a:Act} {Q:Exit->Act->World->Prop}
theorem Kin (hgd:o.guard=none) (s x:Operand) (ho:o.op = .call { callee := .builtin .append,args := #[s,x],argTypes := #[31,31] })
  {B n m c gb go:Nat} {v:Value} {sa:Option Addr} {xs us:List Value} (hs:a.eval s=v) (hown:w.ownsRow B 38 1 v n xs) (hx:a.eval x = .slice sa m c) (hS:Sl w sa gb go us) (hm:us.length=m) (hm0:0<m) (h1 : ∀u∈us,u.oneCell'=true) (hl:n+m<=1000000000) (hB:B<=w.heap.size)
  (h : ∀v' w',w'.ownsRow B 38 1 v' (n+m) (xs++us)->Below B w w'->wpList Tryz.prog ops Q rest (a.put o.dst v') w'):wpList Tryz.prog ops Q (o::rest) a w:=by
 obtain ⟨i0,hi,hz0,hz1,hz2⟩:=info_parts Tryz.infoRow;obtain rfl:=hS.addr (by omega);refine wpList_append_lies w hgd s x 31 ho B 38 i0 _ 1 24 Tryz.underlying31 hi hz0 hz1 hz2 rfl (by omega) v n xs hs hown ⟨gb,go,none⟩ m c us hx (by omega) ?_ h1 hm0 (by unfold maxLen;omega) (by omega) hB w.heap.size rfl ?_
 ·intro j u hj;rw [Lib.add_plain];exact hS.cell j u hj
 ·intro g cap w' k1 k2 k3 k4;exact h _ w' k1 (Below.grown (Below.refl _ _) k2 hB (λq hq=>(World.ownsRow.lt hown q hq).1))
end
theorem KT.one {w:World} {v:Value} {r:List Int} (h:KT w v r):v.oneCell'=true:=by
 obtain ⟨sa,gb,go,cap,rfl,_⟩:=h;rfl
end
end Go.Proofs.YtdmaofimeknkbaaGreatDoor
