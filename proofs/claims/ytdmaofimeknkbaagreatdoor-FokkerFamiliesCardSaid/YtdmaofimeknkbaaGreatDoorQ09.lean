/- Part 9 of the proof of the claim: contracts of the functions that it reaches, and plain laws; no condition. -/
import Derived.Test.YtdmaofimeknkbaaGreatDoorQ08
import Derived.Laws.CopyOwn
import Derived.Deep.RegionLaw
set_option maxRecDepth 100000
set_option maxHeartbeats 20000000
namespace Go.Proofs.YtdmaofimeknkbaaGreatDoor
section
open Go.RowKit Go.Sort
structure Chg (R:Nat->Prop) (w w':World):Prop where
 os:w'.os=w.os
 tape:w'.tape=w.tape
 output:w'.output=w.output
 size:w.heap.size<=w'.heap.size
 block : ∀k,k<w.heap.size -> ¬R k->w'.heap[k]? = w.heap[k]?
theorem Chg.of_ext {R:Nat->Prop} {w w':World} (h:Ext w w'):Chg R w w':=⟨Below.os h,Below.tape h,Below.output h,h.size,λk hk _=>h.block k hk⟩
theorem Chg.refl (R:Nat->Prop) (w:World):Chg R w w := .of_ext (Ext.refl w)
theorem Chg.of_grown {R:Nat->Prop} {w w':World} {g:Nat} (h:w.grownBy w' (some g)) (hg:R g):Chg R w w' :=
 ⟨h.os,h.tape,h.output,h.size,λk hk hR=>h.block k hk (λe=>by injection e with e;subst e;exact hR hg)⟩
theorem Chg.trans {R:Nat->Prop} {a b c:World} (h:Chg R a b) (k:Chg R b c):Chg R a c :=
 ⟨k.os.trans h.os,k.tape.trans h.tape,k.output.trans h.output,Nat.le_trans h.size k.size,λi hi hR=>(k.block i (Nat.lt_of_lt_of_le hi h.size) hR).trans (h.block i hi hR)⟩
theorem Chg.mono {R R':Nat->Prop} {a b:World} (h:Chg R a b) (hR : ∀k,k<a.heap.size->R k->R' k):Chg R' a b :=
 ⟨h.os,h.tape,h.output,h.size,λk hk hn=>h.block k hk (λhr=>hn (hR k hk hr))⟩
theorem Chg.ext {R:Nat->Prop} {w0 a b:World} (h:Chg R a b) (he:Ext w0 a) (hR : ∀k,R k->w0.heap.size<=k):Ext w0 b :=
 Ext.mk' ⟨h.os.trans (Below.os he),h.tape.trans (Below.tape he),h.output.trans (Below.output he),Nat.le_trans he.size h.size,λk hk =>
  (h.block k (Nat.lt_of_lt_of_le hk he.size) (λhr=>by have:=hR k hr;omega)).trans (he.block k hk)⟩
theorem Chg.cell {R:Nat->Prop} {a b:World} (h:Chg R a b) {g o:Nat} {v:Value} (hg : ¬R g) (hc:a.cell? ⟨g,o,none⟩=some v):b.cell? ⟨g,o,none⟩=some v:=by
 have hb:g<a.heap.size:=World.block_lt_of_cell? _ _ hc;have:=h.block g hb hg;unfold World.cell? at *;rw [this];exact hc
theorem Chg.own {R:Nat->Prop} {a b:World} (h:Chg R a b) {T:TypeId} {B g cap:Nat} {xs:List Value} (hg : ¬R g) (hO:Kd T B a g cap xs):Kd T B b g cap xs:=by
 obtain ⟨cur,h1,h2,h3,h4,h5,h6⟩:=hO.parts;exact Kd.of h1 (by rw [h.block g hO.lt.2 hg];exact h2) h3 h4 h5 h6
theorem Tryz.infoStr:(Tryz.prog.info? 45).map (λi=>(i.zero,i.size,i.bytes))=some (some (.string ⟨#[]⟩),1,16):=by kernel_rfl
def fill (z:Int) (n m:Nat):List Value:=List.replicate n (I z)++List.replicate (m-n) (.string ⟨#[]⟩)
theorem JX (z:Int) {n m:Nat} (h:n<=m):(fill z n m).length=m:=by simp [fill];omega
theorem KmG (z:Int) (m:Nat):fill z m m=ss (List.replicate m z):=by simp [fill,ss]
theorem KmH (z:Int) {n m j:Nat} (h:j<n):(fill z n m)[j]? = some (I z):=by
 unfold fill;rw [List.getElem?_append_left (by simpa using h)];simp [h]
theorem KcB (z:Int) {n m k:Nat} (h:n+k<=m):splice (fill z n m) n (List.replicate k (I z))=fill z (n+k) m:=by
 unfold splice fill;rw [List.take_left' (by simp),List.length_replicate,List.drop_append,List.drop_of_length_le (by simp),List.nil_append,List.length_replicate,List.drop_replicate,<-List.append_assoc,List.replicate_append_replicate]
 congr 2
 omega
end
end Go.Proofs.YtdmaofimeknkbaaGreatDoor
namespace Go.Proofs.YtdmaofimeknkbaaGreatDoor.Hnf
abbrev V:=Nat->Int
def sub (v:V) (q:Int) (u:V):V:=λj=>v j-q*u j
inductive Ko (M:List V):V->Prop
 | zero:Ko M (λ_=>0)
 | step {v r:V} (q:Int) (h:Ko M v) (hr:r∈M):Ko M (sub v q r)
theorem sub_zero (v:V) (q:Int):sub v q (λ_=>0)=v:=by funext j;simp [sub]
theorem Ko.sub {M:List V} {v u:V} (q:Int) (hv:Ko M v) (hu:Ko M u):Ko M (Hnf.sub v q u):=by
 induction hu with
 | zero=>rw [sub_zero];exact hv
 | @step u' r q' h hr ih =>
  have:Hnf.sub v q (Hnf.sub u' q' r)=Hnf.sub (Hnf.sub v q u') (-(q*q')) r:=by
   funext j;simp only [Hnf.sub,Int.mul_sub,Int.neg_mul,Int.mul_assoc];omega
  rw [this];exact .step _ ih hr
theorem Ko.mem {M:List V} {r:V} (h:r∈M):Ko M r:=by
 have:=Ko.step (M:=M) (-1) .zero h;have e:Hnf.sub (λ_=>0) (-1) r=r:=by funext j;simp [Hnf.sub]
 rwa [e] at this
theorem Ko.trans {M N:List V} (h : ∀r∈M,Ko N r) {v:V} (hv:Ko M v):Ko N v:=by
 induction hv with
 | zero=>exact .zero
 | step q _ hr ih=>exact ih.sub q (h _ hr)
theorem Ko.mono {M N:List V} (h : ∀r∈M,r∈N) {v:V} (hv:Ko M v):Ko N v:=hv.trans λr hr => .mem (h r hr)
theorem Ko.cons {f:V} {M:List V} {v:V} (h:Ko (f::M) v) : ∃c:Int,∃u,Ko M u /\ ∀j,v j=c*f j+u j:=by
 induction h with
 | zero=>exact ⟨0,_,.zero,λj=>by simp⟩
 | @step v r q _ hr ih =>
  obtain ⟨c,u,hu,e⟩:=ih
  rcases List.mem_cons.1 hr with rfl | hr
  ·exact ⟨c-q,u,hu,λj=>by simp only [Hnf.sub,e j,Int.sub_mul];omega⟩
  ·exact ⟨c,_,hu.step q hr,λj=>by simp only [Hnf.sub,e j];omega⟩
def Ech:Nat->List (Nat×V)->Prop
 | _,[]=>True
 | b,(p,f)::F=>b<=p/\(∀j,j<p->f j=0)/\0<f p/\Ech (p+1) F
def Red:List (Nat×V)->Prop
  | []=>True
  | (_,f)::F=>(∀g∈F,0<=f g.1/\f g.1<g.2 g.1)/\Red F
def rows (F:List (Nat×V)):List V:=F.map (·.2)
theorem Ech.mem {F:List (Nat×V)} : ∀{b:Nat},Ech b F -> ∀g∈F,b<=g.1/\(∀j,j<g.1->g.2 j=0)/\0<g.2 g.1:=by
 induction F with
 | nil=>intro b _ g hg;cases hg
 | cons f F ih =>
  intro b h g hg;obtain ⟨p,f⟩:=f
  rcases List.mem_cons.1 hg with rfl | hg
  ·exact ⟨h.1,h.2.1,h.2.2.1⟩
  ·have:=ih h.2.2.2 g hg;have:=h.1;exact ⟨by omega, ‹_/\_/\_›.2⟩
theorem Ech.span_zero {F:List (Nat×V)} {b:Nat} (h:Ech b F) {v:V} (hv:Ko (rows F) v) : ∀j,j<b->v j=0:=by
 induction hv with
 | zero=>intro j _;rfl
 | @step v r q _ hr ih =>
  intro j hj;obtain ⟨g,hg,rfl⟩:=List.mem_map.1 hr;have:=h.mem g hg;simp [Hnf.sub,ih j hj,this.2.1 j (by omega)]
theorem first (v:V):(∀j,v j=0) \/ ∃j,v j≠0 /\ ∀i,i<j->v i=0:=by
 by_cases h : ∃j,v j≠0
 ·right
  obtain ⟨j,hj⟩:=h
  induction j using Nat.strongRecOn with
  | _ j ih =>
   by_cases h' : ∃i,i<j/\v i≠0
   ·obtain ⟨i,hi,hv⟩:=h';exact ih i hi hv
   ·exact ⟨j,hj,λi hi=>Classical.byContradiction λhc=>h' ⟨i,hi,hc⟩⟩
 ·left;intro j;exact Classical.byContradiction λhc=>h ⟨j,hc⟩
theorem KfD (p:Nat) (f:V) (F:List (Nat×V)):rows ((p,f)::F)=f::rows F:=rfl
theorem Ech.lead {F:List (Nat×V)} : ∀{b:Nat},Ech b F -> ∀{v:V} {j:Nat},Ko (rows F) v->v j≠0->(∀i,i<j->v i=0) -> ∃g∈F,g.1=j/\g.2 j∣v j:=by
 induction F with
 | nil =>
  intro b _ v j hv hj _
  have : ∀{w:V},Ko (rows []) w->w j=0:=by
   intro w hw
   induction hw with
   | zero=>rfl
   | step _ _ hr _=>simp [rows] at hr
  exact absurd (this hv) hj
 | cons f F ih =>
  intro b h v j hv hj hz;obtain ⟨p,f⟩:=f;rw [KfD] at hv;obtain ⟨c,u,hu,e⟩:=hv.cons;obtain ⟨_,h2,h3,h4⟩:=h;have up:u p=0:=h4.span_zero hu p (by omega)
  by_cases hlt:j<p
  ·exact absurd (by rw [e j,h2 j hlt,h4.span_zero hu j (by omega)];simp) hj
  ·by_cases hjp:j=p
   ·subst hjp;exact ⟨(j,f),by simp,rfl,⟨c,by rw [e j,up,Int.mul_comm];simp⟩⟩
   ·have hp:=hz p (by omega);rw [e p,up] at hp
    have hc:c=0:=by
     rcases Int.mul_eq_zero.1 (by omega:c*f p=0) with hc | hc
     ·exact hc
     ·omega
    subst hc;have hvu:v=u:=by funext i;rw [e i];simp
    subst hvu;obtain ⟨g,hg,hg'⟩:=ih h4 hu hj hz;exact ⟨g,List.mem_cons_of_mem _ hg,hg'⟩
theorem Ech.tail {p:Nat} {f:V} {F:List (Nat×V)} {b:Nat} (h:Ech b ((p,f)::F)) {v:V} (hv:Ko (rows ((p,f)::F)) v) (hp:v p=0):Ko (rows F) v:=by
 rw [KfD] at hv;obtain ⟨c,u,hu,e⟩:=hv.cons;obtain ⟨_,_,h3,h4⟩:=h;have up:u p=0:=h4.span_zero hu p (by omega);rw [e p,up] at hp
 have hc:c=0:=by
  rcases Int.mul_eq_zero.1 (by omega:c*f p=0) with hc | hc
  ·exact hc
  ·omega
 subst hc;have hvu:v=u:=by funext i;rw [e i];simp
 subst hvu;exact hu
theorem unique : ∀{A B:List (Nat×V)} {a b:Nat},Ech a A->Red A->Ech b B->Red B->(∀r∈rows A,Ko (rows B) r)->(∀r∈rows B,Ko (rows A) r)->A=B:=by
 intro A
 induction A with
 | nil =>
  intro B a b _ _ hB _ _ h2
  cases B with
  | nil=>rfl
  | cons g B =>
   obtain ⟨q,g⟩:=g;have:=h2 g (by simp [rows])
   have hz : ∀{w:V},Ko (rows []) w -> ∀j,w j=0:=by
    intro w hw
    induction hw with
    | zero=>intro j;rfl
    | step _ _ hr _=>simp [rows] at hr
   have:=hz this q;have:=hB.2.2.1;omega
 | cons f A ih =>
  intro B a b hA hrA hB hrB h1 h2;obtain ⟨p,f⟩:=f
  cases B with
  | nil =>
   have:=h1 f (by simp [rows])
   have hz : ∀{w:V},Ko (rows []) w -> ∀j,w j=0:=by
    intro w hw
    induction hw with
    | zero=>intro j;rfl
    | step _ _ hr _=>simp [rows] at hr
   have:=hz this p;have:=hA.2.2.1;omega
  | cons g B =>
   obtain ⟨q,g⟩:=g;have hfB:=h1 f (by simp [rows]);have hgA:=h2 g (by simp [rows])
   -- the first pivots are one
   obtain ⟨x,hx,hxp,hxd⟩:=hB.lead hfB (j:=p) (by have:=hA.2.2.1;omega) hA.2.1;obtain ⟨y,hy,hyq,hyd⟩:=hA.lead hgA (j:=q) (by have:=hB.2.2.1;omega) hB.2.1
   have hqp:q<=p:=by
    rcases List.mem_cons.1 hx with rfl | hx
    ·exact Nat.le_of_eq hxp
    ·have:=(hB.2.2.2.mem x hx).1;omega
   have hpq:p<=q:=by
    rcases List.mem_cons.1 hy with rfl | hy
    ·exact Nat.le_of_eq hyq
    ·have:=(hA.2.2.2.mem y hy).1;omega
   obtain rfl:p=q:=Nat.le_antisymm hpq hqp
   have hx':x=(p,g):=by
    rcases List.mem_cons.1 hx with h | hx
    ·exact h
    ·have:=(hB.2.2.2.mem x hx).1;omega
   have hy':y=(p,f):=by
    rcases List.mem_cons.1 hy with h | hy
    ·exact h
    ·have:=(hA.2.2.2.mem y hy).1;omega
   subst hx' hy';have hpv:f p=g p:=Int.dvd_antisymm (by have:=hA.2.2.1;omega) (by have:=hB.2.2.1;omega) hyd hxd;have hAt:=hA.2.2.2;have hBt:=hB.2.2.2
   have hAB:A=B:=by
    refine ih hAt hrA.2 hBt hrB.2 (λr hr => ?_) (λr hr => ?_)
    ·exact hB.tail (h1 r (by simp [rows] at hr ⊢;exact .inr hr)) (hAt.span_zero (.mem hr) p (by omega))
    ·exact hA.tail (h2 r (by simp [rows] at hr ⊢;exact .inr hr)) (hBt.span_zero (.mem hr) p (by omega))
   subst hAB
   have hfg:f=g:=by
    have hd:Ko (rows A) (Hnf.sub f 1 g):=hB.tail (hfB.sub 1 (.mem (by simp [rows]))) (by simp [Hnf.sub,hpv])
    rcases first (Hnf.sub f 1 g) with hz | ⟨j,hj,hz⟩
    ·funext j;have:=hz j;simp [Hnf.sub] at this;omega
    ·obtain ⟨x,hx,rfl,hxd⟩:=hAt.lead hd hj hz;have b1:=hrA.1 x hx;have b2:=hrB.1 x hx;obtain ⟨c,hc⟩:=hxd;exfalso;have hpos:=(hAt.mem x hx).2.2;simp only [Hnf.sub,Int.one_mul] at hc hj;have hlt:(x.2 x.1*c).natAbs<(x.2 x.1).natAbs:=by rw [<-hc];omega
     rw [Int.natAbs_mul] at hlt
     have:c.natAbs=0:=by
      rcases Nat.eq_zero_or_pos c.natAbs with h | h
      ·exact h
      ·have:=Nat.mul_le_mul_left (x.2 x.1).natAbs h;omega
     have:c=0:=by omega
     subst this;simp at hc;omega
   subst hfg;rfl
end Go.Proofs.YtdmaofimeknkbaaGreatDoor.Hnf
namespace Go.Proofs.YtdmaofimeknkbaaGreatDoor
section
open Lib (hid)
inductive Z9 (d:Nat):List Ln->List Ln->Prop
 | swap (ls:List Ln) (i j:Nat) (hi:i<ls.length) (hj:j<ls.length) (di:d<=i) (dj:d<=j):Z9 d ls ((ls.set i ls[j]).set j ls[i])
 | sub (ls:List Ln) (i j:Nat) (k:Int) (hi:i<ls.length) (hj:j<ls.length) (hij:i≠j) (di:d<=i) (dj:d<=j):Z9 d ls (ls.set i (lsub k ls[i] ls[j]))
 | neg (ls:List Ln) (i:Nat) (hi:i<ls.length) (di:d<=i):Z9 d ls (ls.set i (lneg ls[i]))
inductive Ops (d:Nat):List Ln->List Ln->Prop
 | refl (ls:List Ln):Ops d ls ls
 | step {a b c:List Ln}:Ops d a b->Z9 d b c->Ops d a c
theorem Ops.trans {d:Nat} {a b c:List Ln} (h:Ops d a b) (k:Ops d b c):Ops d a c:=by
 induction k with
 | refl=>exact h
 | step _ s ih=>exact .step ih s
theorem Ops.one {d:Nat} {a b:List Ln} (h:Z9 d a b):Ops d a b := .step (.refl a) h
theorem Z9.length {d:Nat} {a b:List Ln} (h:Z9 d a b):b.length=a.length:=by
 cases h<;>simp
theorem Ops.length {d:Nat} {a b:List Ln} (h:Ops d a b):b.length=a.length:=by
 induction h with
 | refl=>rfl
 | step _ s ih=>rw [s.length,ih]
theorem Z9.mono {d e:Nat} {a b:List Ln} (h:Z9 d a b) (he:e<=d):Z9 e a b:=by
 cases h with
 | swap i j hi hj di dj=>exact .swap _ i j hi hj (by omega) (by omega)
 | sub i j k hi hj hij di dj=>exact .sub _ i j k hi hj hij (by omega) (by omega)
 | neg i hi di=>exact .neg _ i hi (by omega)
theorem Ops.mono {d e:Nat} {a b:List Ln} (h:Ops d a b) (he:e<=d):Ops e a b:=by
 induction h with
 | refl=>exact .refl _
 | step _ s ih=>exact .step ih (s.mono he)
theorem Z9.ahead {d:Nat} {a b:List Ln} (h:Z9 d a b) {i:Nat} (hi:i<d):b[i]? = a[i]? := by
 cases h with
 | swap p q hp hq dp dq=>rw [List.getElem?_set_ne (by omega),List.getElem?_set_ne (by omega)]
 | sub p q k hp hq hpq dp dq=>rw [List.getElem?_set_ne (by omega)]
 | neg p hp dp=>rw [List.getElem?_set_ne (by omega)]
theorem Ops.ahead {d:Nat} {a b:List Ln} (h:Ops d a b) {i:Nat} (hi:i<d):b[i]? = a[i]? := by
 induction h with
 | refl=>rfl
 | step _ s ih=>rw [s.ahead hi,ih]
def Dim (n m:Nat) (ls:List Ln):Prop := ∀l∈ls,l.1.length=n/\l.2.length=m
theorem Dim.get {n m:Nat} {ls:List Ln} (h:Dim n m ls) {i:Nat} (hi:i<ls.length):ls[i].1.length=n/\ls[i].2.length=m:=h _ (List.getElem_mem hi)
theorem Dim.set {n m:Nat} {ls:List Ln} (h:Dim n m ls) (i:Nat) {l:Ln} (hl:l.1.length=n/\l.2.length=m):Dim n m (ls.set i l):=by
 intro x hx
 rcases List.mem_or_eq_of_mem_set hx with hx | rfl
 ·exact h x hx
 ·exact hl
theorem Dim.step {n m e:Nat} {a b:List Ln} (h:Dim n m a) (s:Z9 e a b):Dim n m b:=by
 cases s with
 | swap i j hi hj di dj=>exact (h.set i (h.get hj)).set j (h.get hi)
 | sub i j k hi hj hij di dj=>exact h.set i (by simp only [lsub,KV];exact h.get hi)
 | neg i hi di=>exact h.set i (by simp only [lneg,List.length_map];exact h.get hi)
theorem Dim.ops {n m e:Nat} {a b:List Ln} (h:Dim n m a) (s:Ops e a b):Dim n m b:=by
 induction s with
 | refl=>exact h
 | step _ t ih=>exact ih.step t
def col (c:Nat) (l:Ln):Int:=l.1.getD c 0
def Kec (c:Nat) (top l:Ln):Ln:=lsub ((col c l).fdiv (col c top)) l top
def KM (c d j:Nat) (ls:List Ln):List Ln:=ls.mapIdx λi l=>if d<i/\i<=d+j then Kec c (ls.getD d default) l else l
@[simp] theorem Kbw (c d j:Nat) (ls:List Ln):(KM c d j ls).length=ls.length:=by simp [KM]
theorem X8 (c d j:Nat) (ls:List Ln) (i:Nat) (h:i<ls.length):(KM c d j ls)[i]'(by simpa using h)=if d<i/\i<=d+j then Kec c (ls.getD d default) ls[i] else ls[i]:=by
 simp [KM]
theorem KaZ (c d:Nat) (ls:List Ln):KM c d 0 ls=ls:=by
 refine List.ext_getElem (by simp) λi h1 h2 => ?_
 rw [X8 _ _ _ _ _ h2,if_neg (by omega)]
theorem Ked (c d j:Nat) (ls:List Ln) (h:d+j+1<ls.length) :
  KM c d (j+1) ls=(KM c d j ls).set (d+j+1) (lsub ((col c ((KM c d j ls)[d+j+1]'(by simpa using h))).fdiv (col c ((KM c d j ls)[d]'(by simp;omega)))) ((KM c d j ls)[d+j+1]'(by simpa using h)) ((KM c d j ls)[d]'(by simp;omega))):=by
 have e1:(KM c d j ls)[d+j+1]'(by simpa using h)=ls[d+j+1]:=by rw [X8 _ _ _ _ _ h,if_neg (by omega)]
 have e2:(KM c d j ls)[d]'(by simp;omega)=ls[d]:=by rw [X8 _ _ _ _ _ (by omega),if_neg (by omega)]
 refine List.ext_getElem (by simp) λi h1 h2 => ?_
 have hi:i<ls.length:=by simpa using h1
 rw [X8 _ _ _ _ _ hi]
 by_cases hid:i=d+j+1
 ·subst hid;rw [List.getElem_set_self,if_pos (by omega),e1,e2];have:ls.getD d default=ls[d]:=by simp [List.getD_eq_getElem?_getD,List.getElem?_eq_getElem (show d<ls.length by omega)]
  rw [this];rfl
 ·rw [List.getElem_set_ne (Ne.symm hid),X8 _ _ _ _ _ hi]
  by_cases hb:d<i/\i<=d+j
  ·rw [if_pos hb,if_pos (by omega)]
  ·rw [if_neg hb,if_neg (by omega)]
theorem Kay (c d:Nat) (ls:List Ln) : ∀j,d+j<ls.length->Ops d ls (KM c d j ls)
 | 0,_=>by rw [KaZ];exact .refl _
 | j+1,h=>by
  rw [Ked c d j ls (by omega)];exact .step (Kay c d ls j (by omega)) (.sub _ (d+j+1) d _ (by simp;omega) (by simp;omega) (by omega) (by omega) (by omega))
def All (Q:Int->Prop) (l:Ln):Prop:=(∀z∈l.1,Q z)/\(∀z∈l.2,Q z)
theorem All.mono {Q R:Int->Prop} {l:Ln} (h:All Q l) (hQ : ∀z,Q z->R z):All R l:=⟨λz hz=>hQ z (h.1 z hz),λz hz=>hQ z (h.2 z hz)⟩
theorem Kaa (k:Int) {Q R T:Int->Prop} (h0 : ∀x,Q x->T x) (h1 : ∀x y,Q x->R y->T (x-k*y)) : ∀a b:List Int,(∀z∈a,Q z)->(∀z∈b,R z) -> ∀z∈QR k a b,T z
 | a,[],ha,_,z,hz=>by rw [XH] at hz;exact h0 z (ha z hz)
 | [],_::_,_,_,z,hz=>by cases hz
 | x::a,y::b,ha,hb,z,hz=>by
  rw [QR] at hz
  rcases List.mem_cons.1 hz with rfl | hz
  ·exact h1 x y (ha x (by simp)) (hb y (by simp))
  ·exact Kaa k h0 h1 a b (λz h=>ha z (by simp [h])) (λz h=>hb z (by simp [h])) z hz
theorem All.lsub (k:Int) {Q R T:Int->Prop} (h0 : ∀x,Q x->T x) (h1 : ∀x y,Q x->R y->T (x-k*y)) {a b:Ln} (ha:All Q a) (hb:All R b):All T (lsub k a b) :=
 ⟨Kaa k h0 h1 _ _ ha.1 hb.1,Kaa k h0 h1 _ _ ha.2 hb.2⟩
theorem All.lneg {Q:Int->Prop} (hQ : ∀z,Q z->Q (-z)) {a:Ln} (ha:All Q a):All Q (lneg a):=by
 constructor
 ·intro z hz;obtain ⟨y,hy,rfl⟩:=List.mem_map.1 hz;exact hQ y (ha.1 y hy)
 ·intro z hz;obtain ⟨y,hy,rfl⟩:=List.mem_map.1 hz;exact hQ y (ha.2 y hy)
theorem All.col {Q:Int->Prop} {l:Ln} (h:All Q l) (h0:Q 0) (c:Nat):Q (col c l):=by
 unfold Go.Proofs.YtdmaofimeknkbaaGreatDoor.col;rw [List.getD_eq_getElem?_getD]
 rcases Nat.lt_or_ge c l.1.length with hc | hc
 ·rw [List.getElem?_eq_getElem hc];exact h.1 _ (List.getElem_mem hc)
 ·rw [List.getElem?_eq_none hc];exact h0
theorem Kdy (c:Nat) (k:Int) {a b:Ln} (h:b.1.length<=a.1.length):col c (lsub k a b)=col c a-k*col c b:=Z7 k a.1 b.1 c h
theorem Kdx (c:Nat) (a:Ln):col c (lneg a) = -col c a:=by
 unfold col lneg;simp only [List.getD_eq_getElem?_getD,List.getElem?_map]
 cases a.1[c]?<;>simp
theorem Kas {x b:Int} (hb:0<b):0<=x-x.fdiv b*b/\x-x.fdiv b*b<b:=by
 have h:=(Int.fdiv_fmod_unique (a:=x) (q:=x.fdiv b) (r:=x.fmod b) hb).1 ⟨rfl,rfl⟩;rw [Int.mul_comm b] at h;omega
theorem Kc9 {x b:Int} (hb:b<0):b<x-x.fdiv b*b/\x-x.fdiv b*b<=0:=by
 have h:=(Int.fdiv_fmod_unique' (a:=x) (q:=x.fdiv b) (r:=x.fmod b) hb).1 ⟨rfl,rfl⟩;rw [Int.mul_comm b] at h;omega
theorem KjO {x b:Int} (hb:b≠0):(x-x.fdiv b*b).natAbs<b.natAbs:=by
 rcases Int.lt_or_gt_of_ne hb with h | h
 ·have:=Kc9 (x:=x) h;omega
 ·have:=Kas (x:=x) h;omega
theorem Zi (x:Int) {b:Int} (hb:b≠0):(x.fdiv b).natAbs<=x.natAbs:=by
 rcases Int.lt_or_gt_of_ne hb with h | h
 ·have h1:=Kc9 (x:=x) h;generalize x.fdiv b=q at *
  rcases Int.lt_trichotomy q 0 with hq | hq | hq
  ·have:(q+1)*(b+1)>=0:=Int.mul_nonneg_of_nonpos_of_nonpos (by omega) (by omega);have e:(q+1)*(b+1)=q*b+q+b+1:=by grind
   omega
  ·omega
  ·have:q*(-b-1)>=0:=Int.mul_nonneg (by omega) (by omega);have e:q*(-b-1) = -(q*b)-q:=by grind
   omega
 ·have h1:=Kas (x:=x) h;generalize x.fdiv b=q at *
  rcases Int.lt_trichotomy q 0 with hq | hq | hq
  ·have:(q+1)*(1-b)>=0:=Int.mul_nonneg_of_nonpos_of_nonpos (by omega) (by omega);have e:(q+1)*(1-b)=q+1-q*b-b:=by grind
   omega
  ·omega
  ·have:q*(b-1)>=0:=Int.mul_nonneg (by omega) (by omega);have e:q*(b-1)=q*b-q:=by grind
   omega
theorem KmF {x b:Int} (hb:b≠0) (hs:(0<=x/\0<=b)\/(x<=0/\b<=0)):((x-x.fdiv b*b).natAbs+1)*((x.fdiv b).natAbs+1)<=x.natAbs+1:=by
 have key : ∀Q B R X:Nat,X=Q*B+R->R<B->(R+1)*(Q+1)<=X+1:=by
  intro Q B R X hX hR;have:Q*(R+1)<=Q*B:=Nat.mul_le_mul_left _ hR;have e:(R+1)*(Q+1)=Q*(R+1)+R+1:=by grind
  omega
 rcases hs with ⟨hx,hb'⟩ | ⟨hx,hb'⟩
 ·have h1:=Kas (x:=x) (b:=b) (by omega)
  have hq:0<=x.fdiv b:=by
   rcases Int.lt_or_le (x.fdiv b) 0 with hq | hq
   ·have:(x.fdiv b+1)*b<=0:=Int.mul_nonpos_of_nonpos_of_nonneg (by omega) hb';have e:(x.fdiv b+1)*b=x.fdiv b*b+b:=by grind
    omega
   ·exact hq
  refine key _ b.natAbs _ _ ?_ (by omega);have:((x.fdiv b).natAbs*b.natAbs:Nat)=(x.fdiv b*b).natAbs:=(Int.natAbs_mul _ _).symm;have h3:0<=x.fdiv b*b:=Int.mul_nonneg hq hb';omega
 ·have h1:=Kc9 (x:=x) (b:=b) (by omega)
  have hq:0<=x.fdiv b:=by
   rcases Int.lt_or_le (x.fdiv b) 0 with hq | hq
   ·have:(x.fdiv b+1)*b>=0:=Int.mul_nonneg_of_nonpos_of_nonpos (by omega) hb';have e:(x.fdiv b+1)*b=x.fdiv b*b+b:=by grind
    omega
   ·exact hq
  refine key _ b.natAbs _ _ ?_ (by omega);have:((x.fdiv b).natAbs*b.natAbs:Nat)=(x.fdiv b*b).natAbs:=(Int.natAbs_mul _ _).symm;have h3:x.fdiv b*b<=0:=Int.mul_nonpos_of_nonneg_of_nonpos hq hb';omega
def sm (f:Nat->Int):Nat->Nat
 | 0=>0
 | i+1=>sm f i+(f i).natAbs
def prd (f:Nat->Int):Nat->Nat
 | 0=>1
 | i+1=>prd f i*((f i).natAbs+1)
theorem Ken {f g:Nat->Int} : ∀{N:Nat},(∀t,t<N->f t=g t)->sm f N=sm g N
 | 0,_=>rfl
 | N+1,h=>by rw [sm,sm,Ken (λt ht=>h t (by omega)),h N (by omega)]
theorem Kca {f g:Nat->Int} : ∀{N:Nat},(∀t,t<N->f t=g t)->prd f N=prd g N
 | 0,_=>rfl
 | N+1,h=>by rw [prd,prd,Kca (λt ht=>h t (by omega)),h N (by omega)]
theorem Kkc {f g:Nat->Int} : ∀{N:Nat},(∀t,t<N->(f t).natAbs<=(g t).natAbs)->sm f N<=sm g N
 | 0,_=>Nat.le_refl _
 | N+1,h=>by have:=Kkc (N:=N) (λt ht=>h t (by omega));have:=h N (by omega);rw [sm,sm];omega
theorem Kpy {f g:Nat->Int} : ∀{N:Nat},(∀t,t<N->(f t).natAbs<=(g t).natAbs) -> ∀s,s<N->(f s).natAbs<(g s).natAbs->sm f N<sm g N
 | 0,_,s,hs,_=>by omega
 | N+1,h,s,hs,hl=>by
  rw [sm,sm]
  by_cases e:s=N
  ·subst e;have:=Kkc (N:=s) (λt ht=>h t (by omega));omega
  ·have:=Kpy (N:=N) (λt ht=>h t (by omega)) s (by omega) hl;have:=h N (by omega);omega
theorem Kj1 (f:Nat->Int) : ∀N,0<prd f N
 | 0=>by simp [prd]
 | N+1=>by rw [prd];exact Nat.mul_pos (Kj1 f N) (by omega)
theorem Kd5 {f g:Nat->Int} : ∀{N:Nat},(∀t,t<N->(f t).natAbs<=(g t).natAbs)->prd f N<=prd g N
 | 0,_=>Nat.le_refl _
 | N+1,h=>by rw [prd,prd];exact Nat.mul_le_mul (Kd5 (λt ht=>h t (by omega))) (by have:=h N (by omega);omega)
theorem KhK {f g:Nat->Int} : ∀{N:Nat},(∀t,t<N->(f t).natAbs<=(g t).natAbs) -> ∀s k,s<N->((f s).natAbs+1)*k<=(g s).natAbs+1->prd f N*k<=prd g N
 | 0,_,s,k,hs,_=>by omega
 | N+1,h,s,k,hs,hl=>by
  rw [prd,prd]
  by_cases e:s=N
  ·subst e;rw [Nat.mul_assoc];exact Nat.mul_le_mul (Kd5 (λt ht=>h t (by omega))) hl
  ·have h1:=KhK (N:=N) (λt ht=>h t (by omega)) s k (by omega) hl;have h2:(f N).natAbs+1<=(g N).natAbs+1:=by have:=h N (by omega);omega
   calc prd f N*((f N).natAbs+1)*k=prd f N*k*((f N).natAbs+1):=by grind
    _<=_:=Nat.mul_le_mul h1 h2
theorem Kj2 {f:Nat->Int} (k:Nat) : ∀{N:Nat},(∀t,t<N->(f t).natAbs<2^k)->prd f N<=2^(k*N)
 | 0,_=>by simp [prd]
 | N+1,h=>by
  rw [prd,show k*(N+1)=k*N+k from Nat.mul_succ _ _,Nat.pow_add];exact Nat.mul_le_mul (Kj2 k (λt ht=>h t (by omega))) (h N (by omega))
def upd (f:Nat->Int) (i:Nat) (v:Int):Nat->Int:=λt=>if t=i then v else f t
theorem Ki8 (f:Nat->Int) (i:Nat) (v:Int) : ∀N,i<N->sm (upd f i v) N+(f i).natAbs=sm f N+v.natAbs
 | 0,h=>by omega
 | N+1,h=>by
  rw [sm,sm]
  by_cases e:i=N
  ·subst e;rw [Ken (f:=upd f i v) (g:=f) (λt ht=>by unfold upd;rw [if_neg (by omega)])];simp [upd];omega
  ·have:=Ki8 f i v N (by omega);have:upd f i v N=f N:=by unfold upd;rw [if_neg (by omega)]
   rw [this];omega
theorem Kgm (f:Nat->Int) (i:Nat) (v:Int) : ∀N,i<N->prd (upd f i v) N*((f i).natAbs+1)=prd f N*(v.natAbs+1)
 | 0,h=>by omega
 | N+1,h=>by
  rw [prd,prd]
  by_cases e:i=N
  ·subst e;rw [Kca (f:=upd f i v) (g:=f) (λt ht=>by unfold upd;rw [if_neg (by omega)])];simp [upd];grind
  ·have h1:=Kgm f i v N (by omega);have:upd f i v N=f N:=by unfold upd;rw [if_neg (by omega)]
   rw [this]
   calc prd (upd f i v) N*((f N).natAbs+1)*((f i).natAbs+1)=prd (upd f i v) N*((f i).natAbs+1)*((f N).natAbs+1):=by grind
    _=_:=by rw [h1];grind
def swf (f:Nat->Int) (p:Nat):Nat->Int:=λt=>if t=p then f 0 else if t=0 then f p else f t
theorem KnJ (f:Nat->Int) (p:Nat):swf f p=upd (upd f 0 (f p)) p (f 0):=by
 funext t;simp [swf,upd]
theorem Kqv (f:Nat->Int) {p N:Nat} (hp:p<N):sm (swf f p) N=sm f N:=by
 rw [KnJ];have h1:=Ki8 f 0 (f p) N (by omega);have h2:=Ki8 (upd f 0 (f p)) p (f 0) N hp;have e:upd f 0 (f p) p=f p:=by unfold upd;split<;>simp_all
 rw [e] at h2;omega
theorem KoT (f:Nat->Int) {p N:Nat} (hp:p<N):prd (swf f p) N=prd f N:=by
 rw [KnJ];have h1:=Kgm f 0 (f p) N (by omega);have h2:=Kgm (upd f 0 (f p)) p (f 0) N hp;have e:upd f 0 (f p) p=f p:=by unfold upd;split<;>simp_all
 rw [e] at h2;have h3:prd (upd (upd f 0 (f p)) p (f 0)) N*((f p).natAbs+1)=prd f N*((f p).natAbs+1):=by rw [h2,h1]
 exact Nat.eq_of_mul_eq_mul_right (by omega) h3
def SS (f:Nat->Int) (N:Nat):Prop:=(∀t,t<N->0<=f t)\/(∀t,t<N->f t<=0)
def rdf (f:Nat->Int):Nat->Int:=λt=>if t=0 then f 0 else f t-(f t).fdiv (f 0)*f 0
theorem Kqp (f:Nat->Int) (N:Nat) (h:f 0≠0):SS (rdf f) N:=by
 rcases Int.lt_or_gt_of_ne h with h | h
 ·right;intro t _;unfold rdf;split
  ·omega
  ·exact (Kc9 h).2
 ·left;intro t _;unfold rdf;split
  ·omega
  ·exact (Kas h).1
theorem Ki1 (f:Nat->Int) {N:Nat} (h:f 0≠0) (hm : ∀t,t<N->f t≠0->(f 0).natAbs<=(f t).natAbs) : ∀t,t<N->(rdf f t).natAbs<=(f t).natAbs:=by
 intro t ht;unfold rdf;split
 ·rename_i e;subst e;omega
 ·by_cases hz:f t=0
  ·rw [hz];simp
  ·have:=KjO (x:=f t) h;have:=hm t ht hz;omega
theorem Knm (f:Nat->Int) {N s:Nat} (h:f 0≠0) (hm : ∀t,t<N->f t≠0->(f 0).natAbs<=(f t).natAbs) (hs:s<N) (h0:s≠0) (hz:f s≠0):sm (rdf f) N<sm f N:=by
 refine Kpy (Ki1 f h hm) s hs ?_;unfold rdf;rw [if_neg h0]
 have:=KjO (x:=f s) h;have:=hm s hs hz;omega
theorem Knl (f:Nat->Int) {N s:Nat} (h:f 0≠0) (hm : ∀t,t<N->f t≠0->(f 0).natAbs<=(f t).natAbs) (hS:SS f N) (hs:s<N) (h0:s≠0):prd (rdf f) N*(((f s).fdiv (f 0)).natAbs+1)<=prd f N:=by
 refine KhK (Ki1 f h hm) s _ hs ?_;unfold rdf;rw [if_neg h0]
 refine KmF h ?_
 rcases hS with hS | hS
 ·exact .inl ⟨hS s hs,hS 0 (by omega)⟩
 ·exact .inr ⟨hS s hs,hS 0 (by omega)⟩
end
end Go.Proofs.YtdmaofimeknkbaaGreatDoor
