/- Part 12 of the proof of the claim: contracts of the functions that it reaches, and plain laws; no condition. -/
import Derived.Test.YtdmaofimeknkbaaGreatDoorQ11
set_option maxRecDepth 100000
set_option maxHeartbeats 20000000
namespace Go.Proofs.YtdmaofimeknkbaaGreatDoor
section
open Hnf (V Ko Ech Red)
def ln1 (M:Mx):List Ln:=M.map λr=>(r,[])
@[simp] theorem KdU (M:Mx):(ln1 M).length=M.length:=by simp [ln1]
theorem Kdc {n:Nat} {M:Mx} (h:Ku n M):Dim n 0 (ln1 M):=by
 intro l hl;obtain ⟨r,hr,rfl⟩:=List.mem_map.1 hl;exact ⟨h r hr,rfl⟩
theorem KoG (M:Mx):KaG (ln1 M)=KF M:=by simp [KaG,KF,ln1,Function.comp_def]
theorem Kbg {n d:Nat} {ps:List Nat} {M:Mx} {ls:List Ln} (hM:Ku n M) (ho:Ops 0 (ln1 M) ls) (h:QF n d ps ls):Zs n M (Za d ls):=by
 have hd0:=Kdc hM;have hd:=hd0.ops ho;have hl:=ho.lat hd0;rw [KoG] at hl;have hf:=h.lat hd;exact ⟨⟨ps,h.isH hd⟩,λv hv=>hl.1 v (hf.1 v hv),λv hv=>(hl.2 v hv).trans hf.2⟩
theorem QF.full {c c' d:Nat} {ps:List Nat} {ls:List Ln} (h:QF c d ps ls) (hd:d=ls.length) (hc:c<=c'):QF c' d ps ls :=
 ⟨h.len,h.le,λi hi=>by have:=h.lt i hi;omega,h.inc,h.left,h.pos,h.red,λi h1 h2=>by omega⟩
def KD (f:Nat->Int):Nat->Int
 | 0=>0
 | n+1=>KD f n+f n
theorem QM {f g:Nat->Int} : ∀{n},(∀i,i<n->f i=g i)->KD f n=KD g n
 | 0,_=>rfl
 | n+1,h=>by rw [KD,KD,QM (λi hi=>h i (by omega)),h n (by omega)]
theorem Yb {f:Nat->Int} : ∀{n},(∀i,i<n->f i=0)->KD f n=0
 | 0,_=>rfl
 | n+1,h=>by rw [KD,Yb (λi hi=>h i (by omega)),h n (by omega)];rfl
theorem KbE (f g:Nat->Int) : ∀n,KD (λi=>f i-g i) n=KD f n-KD g n
 | 0=>rfl
 | n+1=>by rw [KD,KD,KD,KbE f g n];omega
theorem KbD (q:Int) (f:Nat->Int) : ∀n,KD (λi=>q*f i) n=q*KD f n
 | 0=>by simp [KD]
 | n+1=>by rw [KD,KD,KbD q f n,Int.mul_add]
theorem Kab {f:Nat->Int} {k:Nat} : ∀{n},k<n->(∀i,i<n->i≠k->f i=0)->KD f n=f k
 | 0,h,_=>by omega
 | n+1,h,hz=>by
  rw [KD]
  by_cases e:k=n
  ·subst e;rw [Yb (λi hi=>hz i (by omega) (by omega))];omega
  ·rw [Kab (n:=n) (by omega) (λi hi=>hz i (by omega)),hz n (by omega) (Ne.symm e)];omega
def cmb (M:Mx) (y:V):V:=λj=>KD (λi=>y i*eM M i j) M.length
theorem Kc5 (M:Mx) (y z:V) (q:Int) (j:Nat):cmb M (Hnf.sub y q z) j=cmb M y j-q*cmb M z j:=by
 unfold cmb;rw [<-KbD,<-KbE];exact QM λi _=>by simp only [Hnf.sub];grind
theorem Kdv (M:Mx) (j:Nat):cmb M (λ_=>0) j=0:=Yb λi _=>by simp
def KY (M:Mx):Mx:=M.mapIdx λi r=>r++KO M.length i
@[simp] theorem Kgw (M:Mx):(KY M).length=M.length:=by simp [KY]
theorem Yc {M:Mx} {i:Nat} (h:i<M.length):(KY M)[i]'(by simpa using h)=M[i]++KO M.length i:=by simp [KY]
theorem KeN {c:Nat} {M:Mx} (h:Ku c M):Ku (c+M.length) (KY M):=by
 intro r hr;obtain ⟨i,hi,rfl⟩:=List.getElem_of_mem hr;rw [Yc (by simpa using hi),List.length_append,h _ (List.getElem_mem _)];simp [KO]
theorem KeI (m i j:Nat):(KO m i).getD j 0=if j=i/\i<m then 1 else 0:=by
 unfold KO;rw [List.getD_eq_getElem?_getD,List.getElem?_set]
 by_cases e:i=j
 ·subst e
  by_cases h:i<m
  ·simp [h]
  ·simp [h]
 ·rw [if_neg e,if_neg (by omega),List.getElem?_replicate];split<;>rfl
theorem KbL {c:Nat} {M:Mx} (hR:Ku c M) {i:Nat} (h:i<M.length) (j:Nat):vr ((KY M)[i]'(by simpa using h)) j=if j<c then eM M i j else if j=c+i then 1 else 0:=by
 have hl:M[i].length=c:=hR _ (List.getElem_mem h);rw [Yc h];unfold vr eM;rw [Ka h];simp only [List.getD_eq_getElem?_getD]
 by_cases hj:j<c
 ·rw [if_pos hj,List.getElem?_append_left (by omega)]
 ·rw [if_neg hj,List.getElem?_append_right (by omega),<-List.getD_eq_getElem?_getD,KeI,hl]
  by_cases e:j=c+i
  ·rw [if_pos e,if_pos (by omega)]
  ·rw [if_neg e,if_neg (by omega)]
theorem Kmq {c:Nat} {M:Mx} (hR:Ku c M) {i j:Nat} (hj:c<=j):eM M i j=0:=by
 unfold eM
 rcases Nat.lt_or_ge i M.length with hi | hi
 ·rw [Ka hi,List.getD_eq_getElem?_getD,List.getElem?_eq_none (by rw [hR _ (List.getElem_mem hi)];exact hj)];rfl
 ·simp only [List.getD_eq_getElem?_getD];rw [List.getElem?_eq_none hi];rfl
theorem KjM {M:Mx} {i:Nat} (h:i<M.length) (j:Nat):eM M i j=vr M[i] j:=by unfold eM vr;rw [Ka h]
theorem Kcs {c:Nat} {M:Mx} (hR:Ku c M) {v:V} (h:Ko (KF (KY M)) v):(∀j,j<c->v j=cmb M (λi=>v (c+i)) j) /\ ∀j,c+M.length<=j->v j=0:=by
 induction h with
 | zero=>exact ⟨λj _=>(Kdv M j).symm,λ_ _=>rfl⟩
 | @step v r q _ hr ih =>
  obtain ⟨x,hx,rfl⟩:=List.mem_map.1 hr;obtain ⟨i,hi,rfl⟩:=List.getElem_of_mem hx;have hi':i<M.length:=by simpa using hi
  refine ⟨λj hj => ?_,λj hj => ?_⟩
  ·have e:(λk=>Hnf.sub v q (vr (KY M)[i]) (c+k))=Hnf.sub (λk=>v (c+k)) q (λk=>if k=i then 1 else 0):=by
    funext k
    simp only [Hnf.sub,KbL hR hi'];rw [if_neg (by omega)]
    by_cases e:k=i
    ·rw [if_pos (by omega),if_pos e]
    ·rw [if_neg (by omega),if_neg e]
   rw [e,Kc5]
   have e2:cmb M (λk=>if k=i then 1 else 0) j=eM M i j:=by
    unfold cmb;rw [Kab (k:=i) hi' (λt _ ht=>by simp only [if_neg ht];simp)];simp
   rw [e2];simp only [Hnf.sub,KbL hR hi',if_pos hj,<-ih.1 j hj]
  ·simp only [Hnf.sub,KbL hR hi',ih.2 j hj];rw [if_neg (by omega),if_neg (by omega)];simp
theorem Kep {M:List V} {f:Nat->V} (y:V) : ∀{n:Nat},(∀i,i<n->Ko M (f i))->Ko M (λj=>KD (λi=>y i*f i j) n)
 | 0,_ => .zero
 | n+1,h=>by
  have h1:=Kep y (n:=n) (λi hi=>h i (by omega));refine KI (h1.sub (-(y n)) (h n (by omega))) λj => ?_
  simp only [Hnf.sub,KD];grind
theorem Klq {c:Nat} {M:Mx} (hR:Ku c M) {v:V} (h1 : ∀j,j<c->v j=cmb M (λi=>v (c+i)) j) (h2 : ∀j,c+M.length<=j->v j=0):Ko (KF (KY M)) v:=by
 have hs:=Kep (M:=KF (KY M)) (f:=λi=>vr ((KY M).getD i [])) (λi=>v (c+i)) (n:=M.length) (λi hi=>by
  rw [Ka (by simpa using hi)];exact .mem (List.mem_map.2 ⟨_,List.getElem_mem _,rfl⟩))
 refine KI hs λj => ?_
 have e : ∀i,i<M.length->v (c+i)*vr ((KY M).getD i []) j=v (c+i)*(if j<c then eM M i j else if j=c+i then 1 else 0):=λi hi=>by
  rw [Ka (by simpa using hi),KbL hR hi]
 rw [QM e]
 by_cases hj:j<c
 ·rw [h1 j hj];unfold cmb;exact QM λi _=>by rw [if_pos hj]
 ·by_cases hj2:j<c+M.length
  ·rw [Kab (k:=j-c) (by omega) (λi hi hne=>by rw [if_neg hj,if_neg (by omega)];simp),if_neg hj,if_pos (by omega),show c+(j-c)=j by omega];simp
  ·rw [h2 j (by omega),Yb λi hi=>by rw [if_neg hj,if_neg (by omega)];simp]
theorem KnC {M:Mx} {v:V}:Ko (KF M) v ↔ ∃y,v=cmb M y:=by
 constructor
 ·intro h
  induction h with
  | zero=>exact ⟨λ_=>0,by funext j;exact (Kdv M j).symm⟩
  | @step v r q _ hr ih =>
   obtain ⟨y,rfl⟩:=ih;obtain ⟨x,hx,rfl⟩:=List.mem_map.1 hr;obtain ⟨i,hi,rfl⟩:=List.getElem_of_mem hx;refine ⟨Hnf.sub y q (λk=>if k=i then 1 else 0),?_⟩
   funext j
   rw [Kc5]
   have e2:cmb M (λk=>if k=i then 1 else 0) j=eM M i j:=by
    unfold cmb;rw [Kab (k:=i) hi (λt _ ht=>by simp only [if_neg ht];simp)];simp
   rw [e2,KjM hi];rfl
 ·rintro ⟨y,rfl⟩
  have hs:=Kep (M:=KF M) (f:=λi=>vr (M.getD i [])) y (n:=M.length) (λi hi=>by
   rw [Ka hi];exact .mem (List.mem_map.2 ⟨_,List.getElem_mem _,rfl⟩))
  exact hs
def upr (c:Nat) (H:Mx):Mx:=H.filter λr=>decide (pv r<c)
def low (c:Nat) (H:Mx):Mx:=H.filter λr => !decide (pv r<c)
def krn (c:Nat) (H:Mx):Mx:=(low c H).map (List.drop c)
theorem KhV (P:Nat->Prop) (hm : ∀i j,i<j -> ¬P i -> ¬P j) : ∀k,∃u,u<=k/\(∀i,i<u->P i) /\ ∀i,u<=i->i<k -> ¬P i
 | 0=>⟨0,by omega,λi h=>by omega,λi _ h=>by omega⟩
 | k+1=>by
  obtain ⟨u,hu,h1,h2⟩:=KhV P hm k
  by_cases hk:P k
  ·have:u=k:=Classical.byContradiction λhne=>hm u k (by omega) (h2 u (Nat.le_refl _) (by omega)) hk
   subst this
   exact ⟨u+1,by omega,λi hi=>by
    rcases Nat.lt_or_ge i u with h | h
    ·exact h1 i h
    ·have:i=u:=by omega
     subst this;exact hk,λi h h'=>by omega⟩
  ·exact ⟨u,by omega,h1,λi hi hik=>by
    by_cases e:i=k
    ·subst e;exact hk
    ·exact h2 i hi (by omega)⟩
theorem JY {α:Type} {p:α->Bool} : ∀{l:List α} {u:Nat},(∀i (h:i<l.length),i<u->p l[i]=true)->(∀i (h:i<l.length),u<=i->p l[i]=false)->l.filter p=l.take u/\l.filter (λa => !p a)=l.drop u
 | [],u,_,_=>by simp
 | a::l,0,_,h2=>by
  have ih:=JY (l:=l) (u:=0) (p:=p) (λi h hi=>by omega) (λi h _=>by have:=h2 (i+1) (by simpa using h) (by omega);simpa using this);have ha:=h2 0 (by simp) (by omega);simp only [List.getElem_cons_zero] at ha;rw [List.filter_cons_of_neg (by simp [ha]),List.filter_cons_of_pos (by simp [ha]),ih.1,ih.2];simp
 | a::l,u+1,h1,h2=>by
  have ih:=JY (l:=l) (u:=u) (p:=p) (λi h hi=>by have:=h1 (i+1) (by simpa using h) (by omega);simpa using this) (λi h hi=>by have:=h2 (i+1) (by simpa using h) (by omega);simpa using this);have ha:=h1 0 (by simp) (by omega);simp only [List.getElem_cons_zero] at ha;rw [List.filter_cons_of_pos ha,List.filter_cons_of_neg (by simp [ha]),ih.1,ih.2];simp
theorem IsH.pvs {n:Nat} {ps:List Nat} {H:Mx} (h:IsH n ps H) {i:Nat} (hi:i<H.length):ps.getD i 0=pv (H.getD i []):=by
 rw [KiI h,Yj pv H i hi 0 []]
theorem IsH.split {n:Nat} {ps:List Nat} {H:Mx} (h:IsH n ps H) (c:Nat) : ∃u,u<=H.length/\upr c H=H.take u/\low c H=H.drop u/\(∀i,i<u->ps.getD i 0<c) /\ ∀i,u<=i->i<H.length->c<=ps.getD i 0:=by
 obtain ⟨u,hu,h1,h2⟩:=KhV (λi=>i<H.length/\ps.getD i 0<c) (λi j hij hn hp=>hn ⟨by omega,by have:=h.inc i j hij hp.1;omega⟩) H.length
 have hf:=JY (p:=λr=>decide (pv r<c)) (l:=H) (u:=u) (λi hi hiu=>by
  have:=(h1 i hiu).2;rw [h.pvs hi,Ka hi] at this
  exact decide_eq_true this) (λi hi hiu=>by
  have:=h2 i hiu hi;refine decide_eq_false λhc=>this ⟨hi,?_⟩
  rw [h.pvs hi,Ka hi];exact hc)
 exact ⟨u,hu,hf.1,hf.2,λi hi=>(h1 i hi).2,λi hi hl=>Classical.byContradiction λhc=>h2 i hi hl ⟨hl,by omega⟩⟩
theorem Klu (k:Int) (c:Nat) : ∀(a b:List Int),b.length<=a.length->(QR k a b).take c=QR k (a.take c) (b.take c):=by
 induction c with
 | zero=>intro a b _;simp [QR]
 | succ c ih =>
  intro a b h
  cases b with
  | nil=>simp [XH]
  | cons y b =>
   cases a with
   | nil=>simp at h
   | cons x a=>simp only [QR,List.take_succ_cons];rw [ih a b (by simpa using h)]
theorem X6 {l:List Int} {c j:Nat} (h:j<c):(l.take c).getD j 0=l.getD j 0:=by
 simp only [List.getD_eq_getElem?_getD,List.getElem?_take,if_pos h]
theorem Kfg (l:List Int) (c j:Nat):(l.drop c).getD j 0=l.getD (c+j) 0:=by
 simp only [List.getD_eq_getElem?_getD,List.getElem?_drop]
theorem KoU {r:List Int} {c:Nat} (h:pv r<c) (hr:pv r<r.length):pv (r.take c)=pv r:=by
 refine (Kpv (p:=pv r) ?_ λj hj => ?_).1
 ·rw [X6 h];exact Kfs hr
 ·rw [X6 (by omega)];exact Kbs hj
theorem Kfw {m c:Nat} : ∀(U:Mx) (l:List Int),Ku m U->l.length=m->(∀r∈U,pv r<c/\pv r<m)->(Qw U l).take c=Qw (U.map (List.take c)) (l.take c)
 | [],l,_,_,_=>rfl
 | r::U,l,hR,hl,hp=>by
  have hr:r.length=m:=hR r (by simp);obtain ⟨p1,p2⟩:=hp r (by simp);rw [Qw,List.map_cons,Qw,Kfw U _ (λs hs=>hR s (by simp [hs])) (by simp [hl]) (λs hs=>hp s (by simp [hs])),Klu _ _ _ _ (by omega)]
  have e:XG (r.take c) (l.take c)=XG r l:=by
   unfold XG;rw [KoU p1 (by omega),X6 p1,X6 p1]
  rw [e]
theorem Yw {c:Nat} {H:Mx} {i j:Nat} (hj:j<c):eM (H.map (List.take c)) i j=eM H i j:=by
 unfold eM
 rcases Nat.lt_or_ge i H.length with hi | hi
 ·rw [Yj (List.take c) H i hi [] [],X6 hj]
 ·rw [show (H.map (List.take c)).getD i []=[] by rw [List.getD_eq_getElem?_getD,List.getElem?_eq_none (by simpa using hi)];rfl,show H.getD i []=[] by rw [List.getD_eq_getElem?_getD,List.getElem?_eq_none hi];rfl]
theorem Yv {c:Nat} {H:Mx} {i j:Nat}:eM (H.map (List.drop c)) i j=eM H i (c+j):=by
 unfold eM
 rcases Nat.lt_or_ge i H.length with hi | hi
 ·rw [Yj (List.drop c) H i hi [] [],Kfg]
 ·rw [show (H.map (List.drop c)).getD i []=[] by rw [List.getD_eq_getElem?_getD,List.getElem?_eq_none (by simpa using hi)];rfl,show H.getD i []=[] by rw [List.getD_eq_getElem?_getD,List.getElem?_eq_none hi];rfl];rfl
theorem Kc7 {H:Mx} {u i j:Nat} (h:i<u):eM (H.take u) i j=eM H i j:=by
 unfold eM;simp only [List.getD_eq_getElem?_getD,List.getElem?_take,if_pos h]
theorem Kc6 {H:Mx} {u i j:Nat}:eM (H.drop u) i j=eM H (u+i) j:=by
 unfold eM;simp only [List.getD_eq_getElem?_getD,List.getElem?_drop]
theorem Xo {l:List Nat} {u i:Nat} (h:i<u):(l.take u).getD i 0=l.getD i 0:=by
 simp only [List.getD_eq_getElem?_getD,List.getElem?_take,if_pos h]
theorem IsH.leftU {n c u:Nat} {ps:List Nat} {H:Mx} (h:IsH n ps H) (hc:c<=n) (hu:u<=H.length) (hp : ∀i,i<u->ps.getD i 0<c):IsH c (ps.take u) ((H.take u).map (List.take c)):=by
 have hl:((H.take u).map (List.take c)).length=u:=by simp;omega
 have hpl:=h.len;refine ⟨λr hr => ?_,by simp;omega,λi hi => ?_,λi k hik hk => ?_,λi hi j hj => ?_,λi hi => ?_,λi k hik hk => ?_⟩
 ·obtain ⟨s,hs,rfl⟩:=List.mem_map.1 hr;rw [List.length_take,h.rect s (List.mem_of_mem_take hs)];omega
 ·rw [Xo (by omega)];exact hp i (by omega)
 ·rw [Xo (by omega),Xo (by omega)];exact h.inc i k hik (by omega)
 ·rw [Xo (by omega)] at hj;have:=hp i (by omega);rw [Yw (by omega),Kc7 (by omega)];exact h.left i (by omega) j hj
 ·rw [Xo (by omega),Yw (hp i (by omega)),Kc7 (by omega)];exact h.pos i (by omega)
 ·rw [Xo (by omega),Yw (hp k (by omega)),Yw (hp k (by omega)),Kc7 (by omega),Kc7 (by omega)];exact h.red i k hik (by omega)
theorem IsH.rightD {n c m u:Nat} {ps:List Nat} {H:Mx} (h:IsH n ps H) (hn:n=c+m) (hu:u<=H.length) (hp : ∀i,u<=i->i<H.length->c<=ps.getD i 0):IsH m ((ps.drop u).map (λp=>p-c)) ((H.drop u).map (List.drop c)):=by
 have hl:((H.drop u).map (List.drop c)).length=H.length-u:=by simp
 have hpl:=h.len
 have hps : ∀i,i<H.length-u->((ps.drop u).map (λp=>p-c)).getD i 0=ps.getD (u+i) 0-c:=λi hi=>by
  rw [List.getD_eq_getElem?_getD,List.getElem?_map,List.getElem?_drop,List.getElem?_eq_getElem (by omega),Ka (by omega)];rfl
 refine ⟨λr hr => ?_,by simp;omega,λi hi => ?_,λi k hik hk => ?_,λi hi j hj => ?_,λi hi => ?_,λi k hik hk => ?_⟩
 ·obtain ⟨s,hs,rfl⟩:=List.mem_map.1 hr;rw [List.length_drop,h.rect s (List.mem_of_mem_drop hs)];omega
 ·rw [hps i (by omega)];have:=h.lt (u+i) (by omega);have:=hp (u+i) (by omega) (by omega);omega
 ·rw [hps i (by omega),hps k (by omega)];have:=h.inc (u+i) (u+k) (by omega) (by omega);have:=hp (u+i) (by omega) (by omega);omega
 ·rw [hps i (by omega)] at hj;rw [Yv,Kc6];exact h.left (u+i) (by omega) _ (by omega)
 ·rw [hps i (by omega),Yv,Kc6];have:=hp (u+i) (by omega) (by omega);rw [show c+(ps.getD (u+i) 0-c)=ps.getD (u+i) 0 by omega];exact h.pos (u+i) (by omega)
 ·have:=hp (u+k) (by omega) (by omega);rw [hps k (by omega),Yv,Yv,Kc6,Kc6,show c+(ps.getD (u+k) 0-c)=ps.getD (u+k) 0 by omega];exact h.red (u+i) (u+k) (by omega) (by omega)
theorem KqD {l:List Int} {j:Nat} (h:l.length<=j):vr l j=0:=by
 show l.getD j 0=0;rw [List.getD_eq_getElem?_getD,List.getElem?_eq_none h];rfl
theorem KbK {l:List Int} {c:Nat} (j:Nat):vr (l.take c) j=if j<c then vr l j else 0:=by
 by_cases h:j<c
 ·rw [if_pos h];exact X6 h
 ·rw [if_neg h];exact KqD (by simp;omega)
theorem Kdj (l:List Int) (c j:Nat):vr (l.drop c) j=vr l (c+j):=Kfg l c j
theorem KnD {c:Nat} {A B:List V} (hAB : ∀r∈A,Ko B (λj=>if j<c then r j else 0)) {v:V} (h:Ko A v):Ko B (λj=>if j<c then v j else 0):=by
 induction h with
 | zero=>exact KI .zero λj=>by simp
 | @step v r q _ hr ih =>
  refine KI (ih.sub q (hAB r hr)) λj => ?_
  simp only [Hnf.sub];split<;>simp
theorem Kjb {c:Nat} {A B:List V} (hAB : ∀r∈A,Ko B (λj=>r (c+j))) {v:V} (h:Ko A v):Ko B (λj=>v (c+j)):=by
 induction h with
 | zero=>exact .zero
 | @step v r q _ hr ih=>exact ih.sub q (hAB r hr)
theorem KmW {H:Mx} {v:V} (h:v∈KF H) : ∃i,i<H.length/\v=vr (H.getD i []):=by
 obtain ⟨r,hr,rfl⟩:=List.mem_map.1 h;obtain ⟨i,hi,rfl⟩:=List.getElem_of_mem hr;exact ⟨i,hi,by rw [Ka hi]⟩
theorem KpQ (H:Mx) (i j:Nat):vr (H.getD i []) j=eM H i j:=rfl
theorem Kfj {c:Nat} {M H:Mx} (hM:Ku c M) (hH:Zs (c+M.length) (KY M) H) :
  ∃qs,IsH c qs ((upr c H).map (List.take c))/\(∀v∈KF ((upr c H).map (List.take c)),Ko (KF M) v)/\(∀v∈KF M,Ko (KF ((upr c H).map (List.take c))) v):=by
 obtain ⟨⟨ps,hI⟩,h1,h2⟩:=hH;obtain ⟨u,hu,e1,e2,p1,p2⟩:=hI.split c;rw [e1];refine ⟨ps.take u,hI.leftU (by omega) hu p1,λv hv => ?_,λv hv => ?_⟩
 ·obtain ⟨r,hr,rfl⟩:=List.mem_map.1 hv;obtain ⟨s,hs,rfl⟩:=List.mem_map.1 hr;have hw:=Kcs hM (h1 _ (List.mem_map.2 ⟨s,List.mem_of_mem_take hs,rfl⟩));refine KnC.2 ⟨λi=>vr s (c+i),?_⟩
  funext j
  rw [KbK]
  by_cases hj:j<c
  ·rw [if_pos hj];exact hw.1 j hj
  ·rw [if_neg hj];exact (Yb λi _=>by rw [Kmq hM (by omega)];simp).symm
 ·obtain ⟨r,hr,rfl⟩:=List.mem_map.1 hv;obtain ⟨i,hi,rfl⟩:=List.getElem_of_mem hr;have hW:Ko (KF H) (vr ((KY M)[i]'(by simpa using hi))):=h2 _ (List.mem_map.2 ⟨_,List.getElem_mem _,rfl⟩)
  have hc:=KnD (c:=c) (B:=KF ((H.take u).map (List.take c))) (λr hr=>by
   obtain ⟨k,hk,rfl⟩:=KmW hr
   by_cases hku:k<u
   ·refine .mem (List.mem_map.2 ⟨(H.getD k []).take c,List.mem_map.2 ⟨H.getD k [],?_,rfl⟩,?_⟩)
    ·rw [Ka hk];have:k<(H.take u).length:=by simp;omega
     have h3:=List.getElem_mem this;rwa [List.getElem_take] at h3
    ·funext j;exact KbK j
   ·refine KI .zero λj => ?_
    by_cases hj:j<c
    ·rw [if_pos hj,KpQ];exact hI.left k hk j (by have:=p2 k (by omega) hk;omega)
    ·rw [if_neg hj]) hW
  refine KI hc λj => ?_
  rw [KbL hM hi]
  by_cases hj:j<c
  ·rw [if_pos hj,if_pos hj,KjM hi]
  ·rw [if_neg hj,<-KjM hi,Kmq hM (by omega)]
theorem KeJ {c m:Nat} {ps:List Nat} {H:Mx} (hI:IsH m ps H):Ku m (upr c H) /\ ∀r∈upr c H,pv r<c/\pv r<m:=by
 refine ⟨λr hr=>hI.rect r (List.mem_filter.1 hr).1,λr hr => ?_⟩;obtain ⟨h1,h2⟩:=List.mem_filter.1 hr;refine ⟨of_decide_eq_true h2,?_⟩;obtain ⟨i,hi,rfl⟩:=List.getElem_of_mem h1;have:=hI.lt i hi;rwa [hI.pvs hi,Ka hi] at this
def Ys (c:Nat) (H:Mx) (n:Nat) (b:List Int):List Int:=Qw (upr c H) (b++List.replicate n 0)
@[simp] theorem KcM (c:Nat) (H:Mx) (n:Nat) (b:List Int):(Ys c H n b).length=b.length+n:=by simp [Ys]
theorem Kie (b:List Int) (n j:Nat):vr (b++List.replicate n 0) j=if j<b.length then vr b j else 0:=by
 unfold vr;simp only [List.getD_eq_getElem?_getD]
 by_cases hj:j<b.length
 ·rw [if_pos hj,List.getElem?_append_left hj]
 ·rw [if_neg hj,List.getElem?_append_right (by omega),List.getElem?_replicate];split<;>rfl
theorem KnB {c:Nat} {M H:Mx} {b:List Int} (hM:Ku c M) (hH:Zs (c+M.length) (KY M) H) (hb:b.length=c):Y8 ((Ys c H M.length b).take c)↔Ko (KF M) (vr b):=by
 obtain ⟨qs,hU,a1,a2⟩:=Kfj hM hH;obtain ⟨⟨ps,hI⟩,h1,h2⟩:=hH;have hr:=KeJ (c:=c) hI;unfold Ys;rw [Kfw _ _ hr.1 (by simp [hb]) hr.2,List.take_left' hb,Kli hU hb];exact ⟨λh=>h.trans a1,λh=>h.trans a2⟩
def Kbo (l:List Int):List Int:=l.map λz => -z
@[simp] theorem KcH (l:List Int):(Kbo l).length=l.length:=by simp [Kbo]
theorem Kpc (l:List Int) (j:Nat):vr (Kbo l) j = -vr l j:=by
 have:=congrFun (Kjj l) j;simp only [Hnf.sub] at this;show vr (l.map λz => -z) j=_;omega
theorem KoY {c:Nat} {M H:Mx} {b:List Int} (hM:Ku c M) (hH:Zs (c+M.length) (KY M) H) (hb:b.length=c) (hz:Y8 ((Ys c H M.length b).take c)) : ∀j,j<c->cmb M (vr (Kbo ((Ys c H M.length b).drop c))) j=vr b j:=by
 intro j hj;obtain ⟨⟨ps,hI⟩,h1,h2⟩:=hH;have hr:=KeJ (c:=c) hI;have hs:=KaA (n:=c+M.length) (upr c H) (b++List.replicate M.length 0) hr.1 (by simp [hb])
 have hs2:=(hs.mono (N:=KF H) λv hv=>by
  obtain ⟨r,hr,rfl⟩:=List.mem_map.1 hv
  exact List.mem_map.2 ⟨r,(List.mem_filter.1 hr).1,rfl⟩).trans h1
 have hw:=(Kcs hM hs2).1 j hj;have e:Qw (upr c H) (b++List.replicate M.length 0)=Ys c H M.length b:=rfl;rw [e] at hw;have z0:=Kdk.1 hz j;rw [KbK,if_pos hj] at z0;simp only [Hnf.sub] at hw;rw [z0,Kie,hb,if_pos hj] at hw
 have e2:(λi=>vr (b++List.replicate M.length 0) (c+i)-1*vr (Ys c H M.length b) (c+i))=vr (Kbo ((Ys c H M.length b).drop c)):=by
  funext i
  rw [Kpc,Kdj,Kie,hb,if_neg (by omega)];omega
 rw [e2] at hw;omega
theorem Kg3 : ∀(k:Nat) {F:List (Nat×V)} {b:Nat},Ech b F -> ∃b',Ech b' (F.drop k)
 | 0,F,b,h=>⟨b,h⟩
 | k+1,[],b,h=>⟨b,h⟩
 | k+1,(p,f)::F,b,h=>by obtain ⟨_,_,_,h4⟩:=h;exact Kg3 k h4
theorem KfH {F:List (Nat×V)} {b:Nat} (hE:Ech b F) {v:V} (hv:Ko (Hnf.rows F) v) : ∀u,u<=F.length->(∀i,i<u -> ∀(h:i<F.length),v (F[i]).1=0)->Ko (Hnf.rows (F.drop u)) v
 | 0,_,_=>hv
 | u+1,hu,hz=>by
  have ih:=KfH hE hv u (by omega) (λi hi h=>hz i (by omega) h);obtain ⟨b',hb'⟩:=Kg3 u hE;rw [List.drop_eq_getElem_cons (by omega)] at ih hb';obtain ⟨p,hp⟩ : ∃p,p=F[u]'(by omega):=⟨_,rfl⟩
  have h0:=hz u (by omega) (by omega);rw [<-hp] at ih hb' h0;obtain ⟨p1,p2⟩:=p;exact hb'.tail ih h0
theorem Kbk {c:Nat} {M H:Mx} (hM:Ku c M) (hH:Zs (c+M.length) (KY M) H) :
  ∃qs,IsH M.length qs (krn c H) /\ ∀y:V,Ko (KF (krn c H)) y↔(∀j,j<c->cmb M y j=0) /\ ∀i,M.length<=i->y i=0:=by
 obtain ⟨⟨ps,hI⟩,h1,h2⟩:=hH;obtain ⟨u,hu,e1,e2,p1,p2⟩:=hI.split c;have hK:krn c H=(H.drop u).map (List.drop c):=by unfold krn;rw [e2]
 rw [hK];have hD:=hI.rightD (m:=M.length) rfl hu p2;refine ⟨_,hD,λy=>⟨λh => ?_,λh => ?_⟩⟩
 ·induction h with
  | zero=>exact ⟨λj _=>Kdv M j,λ_ _=>rfl⟩
  | @step v r q _ hr ih =>
   obtain ⟨x,hx,rfl⟩:=List.mem_map.1 hr;obtain ⟨s,hs,rfl⟩:=List.mem_map.1 hx;obtain ⟨k,hk,rfl⟩:=List.getElem_of_mem hs;have hk':u+k<H.length:=by simp at hk;omega
   rw [List.getElem_drop] at hx hr ⊢;have hw:=Kcs hM (h1 _ (List.mem_map.2 ⟨H[u+k],List.getElem_mem hk',rfl⟩));refine ⟨λj hj => ?_,λi hi => ?_⟩
   ·rw [Kc5,ih.1 j hj];have e3:vr (List.drop c H[u+k])=λi=>vr H[u+k] (c+i):=by funext i;exact Kdj _ _ _
    rw [e3,<-hw.1 j hj];have:=hI.left (u+k) hk' j (by have:=p2 (u+k) (by omega) hk';omega);rw [KjM hk'] at this;rw [this];simp
   ·simp only [Hnf.sub];rw [ih.2 i hi,Kdj,hw.2 _ (by omega)];simp
 ·have hv:Ko (KF (KY M)) (λj=>if j<c then 0 else y (j-c)):=by
   refine Klq hM (λj hj => ?_) λj hj => ?_
   ·rw [if_pos hj];have e3:(λi=>if c+i<c then (0:Int) else y (c+i-c))=y:=by funext i;rw [if_neg (by omega),Nat.add_sub_cancel_left]
    rw [e3,h.1 j hj]
   ·rw [if_neg (by omega)];exact h.2 _ (by omega)
  have hH2:=hv.trans h2;rw [<-Zl hI.len] at hH2
  have ht:=KfH hI.ech hH2 u (by simp [wps,hI.len];omega) (λi hi h=>by
   have hpi:((wps ps H)[i]'h).1=ps.getD i 0:=by
    have hil:i<ps.length:=by rw [hI.len];omega
    rw [Ka hil];simp [wps]
   rw [hpi,if_pos (p1 i hi)])
  have e3:Hnf.rows ((wps ps H).drop u)=KF (H.drop u):=by
   have:=Zl hI.len;unfold Hnf.rows at this ⊢;rw [List.map_drop,this];simp [KF,List.map_drop]
  rw [e3] at ht
  have hsh:=Kjb (c:=c) (B:=KF ((H.drop u).map (List.drop c))) (λr hr=>by
   obtain ⟨s,hs,rfl⟩:=List.mem_map.1 hr;refine .mem (List.mem_map.2 ⟨s.drop c,List.mem_map.2 ⟨s,hs,rfl⟩,?_⟩)
   funext j;exact Kdj _ _ _) ht
  refine KI hsh λj => ?_
  rw [if_neg (by omega),Nat.add_sub_cancel_left]
def XX (c:Nat) (H:Mx) (n:Nat) (b:List Int):List Int:=Qw (krn c H) (Kbo ((Ys c H n b).drop c))
theorem KcN {c n:Nat} {H:Mx} {b:List Int} (hb:b.length=c):(XX c H n b).length=n:=by
 unfold XX;rw [YG,KcH,List.length_drop,KcM,hb];omega
theorem KnA {c:Nat} {M H:Mx} {b:List Int} (hM:Ku c M) (hH:Zs (c+M.length) (KY M) H) (hb:b.length=c) (hz:Y8 ((Ys c H M.length b).take c)) : ∀j,j<c->cmb M (vr (XX c H M.length b)) j=vr b j:=by
 intro j hj;obtain ⟨qs,hK,hS⟩:=Kbk hM hH;have h0:(Kbo ((Ys c H M.length b).drop c)).length=M.length:=by simp [hb]
 have hs:=KaA (krn c H) _ hK.rect h0;have:=((hS _).1 hs).1 j hj;rw [Kc5,KoY hM hH hb hz j hj] at this;unfold XX;omega
end
section
open Go.RowKit Go.Sort
open Lib (hid)
theorem Kjo (n g cap:Nat):(xv n g cap).ownBlock=if n=0 then none else some g:=by
 unfold xv;split<;>rfl
theorem Khe {w:World} {sa:Option Addr} {gb go cap:Nat} {vs:List Value} {p:Nat->Bool} {k:Int} (hS:Sl w sa gb go vs) (hl:vs.length<=1000000)
  (hF : ∀i (h:i<vs.length) W,Ext w W->Calls Tryz.prog 84 #[vs[i]] W λe w'=>e = .returned (.bool (p i))/\Ext W w') (hk:IxR p vs.length k) :
  Calls Tryz.prog 54 #[.slice sa vs.length cap,.func (.func 84) #[] #[]] w λe w'=>e = .returned (.int .i64 k)/\Ext w w':=by
 have HF:=hid hF;have HK:=hid hk;have HS:=hid hS;clear hF hk hS
 go_enter Tryz.func54,Tryz.ntmps54
 go_wp2_with fail
 go_loopw [8] (λidx wr => ∃i:Nat,i<=vs.length/\idx = .int .i64 i/\Hid (∀j,j<i->p j=false)/\Ext w wr) (λidx _=>vs.length-(intOf idx).toNat)
 case atStart=>exact ⟨0,by omega,by go_num,hid (λj h=>by omega),Ext.refl _⟩
 case round =>
  obtain ⟨i,hi,rfl,Hp,hE⟩:=hrel;generalize wr=X at *
  by_cases hlt:i<vs.length
  ·have hii:(i:Int)<(vs.length:Int):=by omega
   obtain ⟨u,hu⟩ : ∃u,u=vs[i]:=⟨_,rfl⟩
   have hc:=hE.cell (HS.out.cell i u (by rw [hu];exact List.getElem?_eq_getElem hlt));obtain rfl:=HS.out.addr (by omega);have hf:=HF.out i hlt X hE;rw [<-hu] at hf;have Hf:=hid hf;clear hf hu
   cases hpi:p i
   ·rw [hpi] at Hf;have Hpi:=hid hpi;clear hpi;go_wp2_with fail;refine Hf.out.mono ?_;rintro e W ⟨rfl,hE2⟩;go_wp2_with fail;go_roundw
    case rel=>exact ⟨i+1,by omega,by go_num,hid (λj hj=>by
     by_cases e:j=i
     ·subst e;exact Hpi.out
     ·exact Hp.out j (by omega)),hE.trans hE2⟩
    case measure=>simp [intOf]<;>omega
   ·rw [hpi] at Hf;have Hki:=hid (JH HK.out hlt hpi Hp.out);clear hpi;go_wp2_with fail;refine Hf.out.mono ?_;rintro e W ⟨rfl,hE2⟩;go_wp2_with fail;go_ret;exact ⟨by rw [Hki.out];rfl,hE.trans hE2⟩
  ·have Hki:=hid (JI HK.out (λj hj=>Hp.out j (by omega)));go_wp2_with fail;go_ret;exact ⟨by rw [Hki.out];rfl,hE⟩
theorem KdB {w:World} {sa:Option Addr} {gb go cap:Nat} {vs:List Value} {p:Nat->Bool} (hS:Sl w sa gb go vs) (hl:vs.length<=1000000)
  (hF : ∀i (h:i<vs.length) W,Ext w W->Calls Tryz.prog 84 #[vs[i]] W λe w'=>e = .returned (.bool (p i))/\Ext W w') :
  Calls Tryz.prog 30 #[.slice sa vs.length cap,.func (.func 84) #[] #[]] w λe w'=>e = .returned (.bool (JJ p vs.length))/\Ext w w':=by
 obtain ⟨k,hk⟩:=KbP p vs.length;have Hge:=hid (Kdm hk);have HI:=hid (Khe (cap:=cap) hS hl hF hk);clear hS hF hk
 go_enter Tryz.func30,Tryz.ntmps30
 go_wp2_with fail;refine HI.out.mono ?_;rintro e W ⟨rfl,hE⟩;go_wp2_with fail;go_ret;exact ⟨by rw [<-Hge.out];rfl,hE⟩
theorem KdN {w:World} {sa:Option Addr} {gb go cap:Nat} {vs:List Value} {p:Nat->Bool} {k:Int} (hS:Sl w sa gb go vs) (hl:vs.length<=1000000)
  (hF : ∀i (h:i<vs.length) W,Ext w W->Calls Tryz.prog 133 #[vs[i]] W λe w'=>e = .returned (.bool (p i))/\Ext W w') (hk:IxR p vs.length k) :
  Calls Tryz.prog 54 #[.slice sa vs.length cap,.func (.func 133) #[] #[]] w λe w'=>e = .returned (.int .i64 k)/\Ext w w':=by
 have HF:=hid hF;have HK:=hid hk;have HS:=hid hS;clear hF hk hS
 go_enter Tryz.func54,Tryz.ntmps54
 go_wp2_with fail
 go_loopw [8] (λidx wr => ∃i:Nat,i<=vs.length/\idx = .int .i64 i/\Hid (∀j,j<i->p j=false)/\Ext w wr) (λidx _=>vs.length-(intOf idx).toNat)
 case atStart=>exact ⟨0,by omega,by go_num,hid (λj h=>by omega),Ext.refl _⟩
 case round =>
  obtain ⟨i,hi,rfl,Hp,hE⟩:=hrel;generalize wr=X at *
  by_cases hlt:i<vs.length
  ·have hii:(i:Int)<(vs.length:Int):=by omega
   obtain ⟨u,hu⟩ : ∃u,u=vs[i]:=⟨_,rfl⟩
   have hc:=hE.cell (HS.out.cell i u (by rw [hu];exact List.getElem?_eq_getElem hlt));obtain rfl:=HS.out.addr (by omega);have hf:=HF.out i hlt X hE;rw [<-hu] at hf;have Hf:=hid hf;clear hf hu
   cases hpi:p i
   ·rw [hpi] at Hf;have Hpi:=hid hpi;clear hpi;go_wp2_with fail;refine Hf.out.mono ?_;rintro e W ⟨rfl,hE2⟩;go_wp2_with fail;go_roundw
    case rel=>exact ⟨i+1,by omega,by go_num,hid (λj hj=>by
     by_cases e:j=i
     ·subst e;exact Hpi.out
     ·exact Hp.out j (by omega)),hE.trans hE2⟩
    case measure=>simp [intOf]<;>omega
   ·rw [hpi] at Hf;have Hki:=hid (JH HK.out hlt hpi Hp.out);clear hpi;go_wp2_with fail;refine Hf.out.mono ?_;rintro e W ⟨rfl,hE2⟩;go_wp2_with fail;go_ret;exact ⟨by rw [Hki.out];rfl,hE.trans hE2⟩
  ·have Hki:=hid (JI HK.out (λj hj=>Hp.out j (by omega)));go_wp2_with fail;go_ret;exact ⟨by rw [Hki.out];rfl,hE⟩
theorem Kbd {w:World} {sa:Option Addr} {gb go cap:Nat} {vs:List Value} {p:Nat->Bool} (hS:Sl w sa gb go vs) (hl:vs.length<=1000000)
  (hF : ∀i (h:i<vs.length) W,Ext w W->Calls Tryz.prog 133 #[vs[i]] W λe w'=>e = .returned (.bool (p i))/\Ext W w') :
  Calls Tryz.prog 30 #[.slice sa vs.length cap,.func (.func 133) #[] #[]] w λe w'=>e = .returned (.bool (JJ p vs.length))/\Ext w w':=by
 obtain ⟨k,hk⟩:=KbP p vs.length;have Hge:=hid (Kdm hk);have HI:=hid (KdN (cap:=cap) hS hl hF hk);clear hS hF hk
 go_enter Tryz.func30,Tryz.ntmps30
 go_wp2_with fail;refine HI.out.mono ?_;rintro e W ⟨rfl,hE⟩;go_wp2_with fail;go_ret;exact ⟨by rw [<-Hge.out];rfl,hE⟩
def grt (z:Int):Bool:=decide (1000000000<z\/z < -1000000000)
theorem KkQ (z:Int) (w:World):Calls Tryz.prog 84 #[.int .i64 z] w λe w'=>e = .returned (.bool (grt z))/\Ext w w':=by
 by_cases h1:1000000000<z
 ·have hg:grt z=true:=decide_eq_true (.inl h1);rw [hg];clear hg
  go_enter Tryz.func84,Tryz.ntmps84
  go_wp2
  go_ret;exact ⟨rfl,Ext.refl _⟩
 ·have h2:z<=1000000000:=by omega
  by_cases h3:z < -1000000000
  ·have hg:grt z=true:=decide_eq_true (.inr h3);rw [hg];clear hg
   go_enter Tryz.func84,Tryz.ntmps84
   go_wp2
   go_ret;exact ⟨rfl,Ext.refl _⟩
  ·have h4 : -1000000000<=z:=by omega
   have hg:grt z=false:=decide_eq_false (by omega);rw [hg];clear hg
   go_enter Tryz.func84,Tryz.ntmps84
   go_wp2
   go_ret;exact ⟨rfl,Ext.refl _⟩
def XN (c:Nat) (r:List Int):Int:=if 12<r.length then 4 else if r.length≠c then 5 else if r.any grt then 4 else 0
def chk (c:Nat):Mx->Int
 | []=>0
 | r::M=>if XN c r=0 then chk c M else XN c r
def Qr (M:Mx):Int:=if 12<M.length then 4 else chk (M.getD 0 []).length M
theorem Kl8 (c:Nat) : ∀(M:Mx) (i:Nat) (h:i<M.length),(∀j (hj:j<i),XN c (M[j]'(by omega))=0)->XN c M[i]≠0->chk c M=XN c M[i]
 | [],_,h,_,_=>by simp at h
 | r::M,0,_,_,hne=>by simp only [List.getElem_cons_zero] at hne ⊢;rw [chk,if_neg hne]
 | r::M,i+1,h,hz,hne=>by
  rw [chk,if_pos (show XN c r=0 from hz 0 (by omega))];exact Kl8 c M i (by simpa using h) (λj hj=>hz (j+1) (by omega)) hne
theorem Kbb (c:Nat) : ∀(M:Mx),(∀j (hj:j<M.length),XN c M[j]=0)->chk c M=0
 | [],_=>rfl
 | r::M,hz=>by
  rw [chk,if_pos (show XN c r=0 from hz 0 (by simp))];exact Kbb c M (λj hj=>hz (j+1) (by simpa using hj))
theorem Kl9 {c:Nat} : ∀{M:Mx},chk c M=0 -> ∀r∈M,XN c r=0
 | [],_,r,hr=>by cases hr
 | r::M,h,x,hx=>by
  rw [chk] at h;split at h
  ·rcases List.mem_cons.1 hx with rfl | hx
   ·assumption
   ·exact Kl9 h x hx
  ·exact absurd h ‹_›
theorem Kn9 {c:Nat} {r:List Int} (h:XN c r=0):r.length<=12/\r.length=c /\ ∀z∈r,-1000000000<=z/\z<=1000000000:=by
 unfold XN at h;split at h
 ·cases h
 ·split at h
  ·cases h
  ·split at h
   ·cases h
   ·rename_i h1 h2 h3
    refine ⟨by omega,by omega,λz hz => ?_⟩
    have:grt z=false:=by
     cases hg:grt z
     ·rfl
     ·exact absurd (List.any_eq_true.2 ⟨z,hz,hg⟩) h3
    unfold grt at this;have:=of_decide_eq_false this;omega
def KX (M:Mx):Nat:=(M.getD 0 []).length
theorem Kal {M:Mx} (h:Qr M=0):M.length<=12/\KX M<=12/\Ku (KX M) M /\ ∀r∈M,∀z∈r,-1000000000<=z/\z<=1000000000:=by
 unfold Qr at h;split at h
 ·cases h
 ·have hr:=λr hr=>Kn9 (Kl9 h r hr)
  refine ⟨by omega,?_,λr h'=>(hr r h').2.1,λr h'=>(hr r h').2.2⟩
  cases M with
  | nil=>simp [KX]
  | cons r M=>exact (hr r (by simp)).1
theorem Kjv (r:List Int):JJ (λi=>grt (r.getD i 0)) r.length=r.any grt:=by
 cases h:r.any grt
 ·refine Ka5 λi hi => ?_
  rw [Ka hi]
  cases hg:grt r[i]
  ·rfl
  ·rw [List.any_eq_true.2 ⟨_,List.getElem_mem hi,hg⟩] at h;cases h
 ·obtain ⟨z,hz,hg⟩:=List.any_eq_true.1 h;obtain ⟨i,hi,rfl⟩:=List.getElem_of_mem hz;exact JK.2 ⟨i,hi,by rw [Ka hi];exact hg⟩
theorem Xf {w:World} {v:Value} {M:Mx} (hM:KJ w v M) :
  Calls Tryz.prog 47 #[v] w λe w'=>e = .returned (.int .i64 (Qr M))/\Ext w w':=by
 obtain ⟨sa,gb,go,cap,vs,rfl,hcap,hvl,hS,hr⟩:=hM
 by_cases hbig:12<M.length
 ·have hbi:(12:Int)<(M.length:Int):=by omega
  have he:Qr M=4:=by unfold Qr;rw [if_pos hbig]
  rw [he];clear he hS hr hvl
  go_enter Tryz.func47,Tryz.ntmps47
  go_wp2_with fail;go_ret;exact ⟨rfl,Ext.refl _⟩
 have he:Qr M=chk (M.getD 0 []).length M:=by unfold Qr;rw [if_neg hbig]
 rw [he];have hml:M.length<=12:=by omega
 have hmi:(M.length:Int)<=12:=by omega
 have HS:=hid hS;have HV:=hid hvl;have HR:=hid hr;clear hS hvl hr he hbig
 go_enter Tryz.func47,Tryz.ntmps47
 go_wp2_with fail
 go_loopw [10] (λidx wr => ∃i:Nat,i<=M.length/\idx = .int .i64 i/\Hid (∀j (h:j<M.length),j<i->XN (M.getD 0 []).length M[j]=0)/\Ext w wr) (λidx _=>M.length-(intOf idx).toNat)
 case atStart=>exact ⟨0,by omega,by go_num,hid (λj _ h=>by omega),Ext.refl _⟩
 case round =>
  obtain ⟨i,hi,rfl,Hz,hE⟩:=hrel;generalize wr=X at *
  by_cases hlt:i<M.length
  ·have hii:(i:Int)<(M.length:Int):=by omega
   have hi0:0<M.length:=by omega
   obtain rfl:=HS.out.addr (by rw [HV.out];omega);obtain ⟨sr,br,or,cr,hrow,hrc,hSr⟩:=KJ.row HS.out HV.out HR.out hlt;obtain ⟨s0,b0,o0,c0,hrow0,hrc0,hS0⟩:=KJ.row HS.out HV.out HR.out hi0;have hrow':=hE.cell hrow;have hrow0':=hE.cell hrow0;rw [Nat.add_zero] at hrow0';obtain ⟨c,hc⟩ : ∃c,c=(M.getD 0 []).length:=⟨_,rfl⟩
   have hc0:M[0].length=c:=by rw [hc,Ka hi0]
   rw [hc0] at hrow0';obtain ⟨n,hn⟩ : ∃n,n=M[i].length:=⟨_,rfl⟩
   rw [<-hn] at hrow';have HC:=hid hc;have Hn:=hid hn
   have hat:XN c M[i]≠0->chk (M.getD 0 []).length M=XN c M[i]:=λh=>by
    rw [hc];exact Kl8 _ M i hlt (λj hj=>Hz.out j (by omega) hj) (by rw [<-hc];exact h)
   have Hat:=hid hat;clear hrow hrow0 hrc0 hS0 hc hc0 hn hat
   by_cases h12:12<n
   ·have h12i:(12:Int)<(n:Int):=by omega
    have hch:XN c M[i]=4:=by unfold XN;rw [<-Hn.out,if_pos h12]
    have Hch:=hid hch;clear hch;go_wp2_with fail;go_ret;exact ⟨by rw [Hat.out (by rw [Hch.out];decide),Hch.out];rfl,hE⟩
   ·have h12i:(n:Int)<=12:=by omega
    have h12d:decide ((12:Int)<(n:Int))=false:=decide_eq_false (by omega)
    by_cases hnc:n=c
    ·subst hnc
     have hgr:=hid (KdB (cap:=cr) (p:=λk=>grt (M[i].getD k 0)) (vs:=is M[i]) (w:=X) ((hSr.ext hE)) (by rw [Kq,<-Hn.out];omega) (λk hk W hW=>by
      have hk':k<M[i].length:=by simpa using hk
      have e:(is M[i])[k] = .int .i64 M[i][k]:=by simp [is]
      rw [e,Ka hk']
      exact KkQ M[i][k] W))
     rw [Kq,Kjv,<-Hn.out] at hgr
     cases hg:M[i].any grt
     ·rw [hg] at hgr;have Hg:=hid hg;clear hg h12;go_wp2_with fail;refine hgr.out.mono ?_;rintro e W ⟨rfl,hW⟩;go_wp2_with fail;go_roundw
      case rel=>exact ⟨i+1,by omega,by go_num,hid (λj h hj=>by
       by_cases e:j=i
       ·subst e;rw [<-HC.out];unfold XN;rw [<-Hn.out,if_neg (by omega),if_neg (by omega),Hg.out];rfl
       ·exact Hz.out j h (by omega)),hE.trans hW⟩
      case measure=>simp [intOf]<;>omega
     ·rw [hg] at hgr;have hch:XN n M[i]=4:=by unfold XN;rw [<-Hn.out,if_neg (by omega),if_neg (by omega),hg];rfl
      have Hch:=hid hch;clear hg h12 hch;go_wp2_with fail;refine hgr.out.mono ?_;rintro e W ⟨rfl,hW⟩;go_wp2_with fail;go_ret;exact ⟨by rw [Hat.out (by rw [Hch.out];decide),Hch.out];rfl,hE.trans hW⟩
    ·have hch:XN c M[i]=5:=by unfold XN;rw [<-Hn.out,if_neg h12,if_pos hnc]
     have Hch:=hid hch;have hnb:((n:Int)==(c:Int))=false:=beq_eq_false_iff_ne.2 (by omega);have hnb2:((n:Int) != (c:Int))=true:=by simp [bne,hnb]
     have hnc' : ¬(n:Int)=(c:Int):=by omega
     clear hch hnc h12;go_wp2_with fail;go_ret;exact ⟨by rw [Hat.out (by rw [Hch.out];decide),Hch.out];rfl,hE⟩
  ·have Hch:=hid (Kbb (M.getD 0 []).length M (λj h=>Hz.out j h (by omega)));go_wp2_with fail;go_ret;exact ⟨by rw [Hch.out];rfl,hE⟩
end
end Go.Proofs.YtdmaofimeknkbaaGreatDoor
