/- Part 27 of the proof of the claim: contracts of the functions that it reaches, and plain laws; no condition. -/
import Derived.Test.YtdmaofimeknkbaaGreatDoorQ18
import Derived.Test.YtdmaofimeknkbaaGreatDoorQ26
import Derived.Test.YtdmaofimeknkbaaGreatDoorQ12
import Derived.Test.YtdmaofimeknkbaaGreatDoorQ10
import Derived.Test.YtdmaofimeknkbaaGreatDoorQ23
import Derived.Test.YtdmaofimeknkbaaGreatDoorQ19
set_option maxRecDepth 100000
set_option maxHeartbeats 20000000
namespace Go.Proofs.YtdmaofimeknkbaaGreatDoor
section
open Go.RowKit Go.Sort
def bsM (n:Nat) (M:Mx):Mx:=Xh n 0::M
def eqR (n:Nat) (M:Mx) (X:List Int) (i:Nat):List Rat:=(bsM n M).map (λr=>((r.getD i 0:Int):Rat))++[((X.getD i 0:Int):Rat)]
def eqF (n:Nat) (M:Mx) (X:List Int):Mq:=(List.range n).map (eqR n M X)
def CoV (n:Nat) (M:Mx) (x c:Nat->Rat):Prop := ∀i,i<n->QL (λj=>((eM (bsM n M) j i:Int):Rat)*c j) n=x i
def mnL (n:Nat) (M:Mx):List Int :=
 if n=2 then [0-eM M 0 1,eM M 0 0] else [eM M 0 1*eM M 1 2-eM M 0 2*eM M 1 1,eM M 0 2*eM M 1 0-eM M 0 0*eM M 1 2,eM M 0 0*eM M 1 1-eM M 0 1*eM M 1 0]
def ZZ (n:Nat) (M:Mx):List Int:=if (mnL n M).getD 0 0<0 then (mnL n M).map (λz=>0-z) else mnL n M
structure BkM (n:Nat) (M:Mx) (v:List Int):Prop where
 hn:n=2\/n=3
 len:M.length+1=n
 rect:Ku n M
 bd : ∀r∈M,∀z∈r,z.natAbs<=8
 vv:v=ZZ n M
 pos:0<v.getD 0 0
 le:v.getD 0 0<=100
 gcd : ∀d:Int,(∀z∈v,d∣z)->d∣1
theorem JM (n:Nat) (M:Mx) (j i:Nat):eM (bsM n M) (j+1) i=eM M j i:=rfl
theorem QH {n:Nat} (M:Mx) (hn:0<n) (i:Nat):eM (bsM n M) 0 i=if i=0 then 1 else 0:=by
 show (Xh n 0).getD i 0=_;exact Xt hn i
theorem XM {n:Nat} (M:Mx) (i:Nat):eM (bsM n M) 1 i=eM M 0 i:=rfl
theorem Kba {n:Nat} (M:Mx) (i:Nat):eM (bsM n M) 2 i=eM M 1 i:=rfl
theorem CoV.e2 {M:Mx} {x c:Nat->Rat} (h:CoV 2 M x c):c 0+((eM M 0 0:Int):Rat)*c 1=x 0/\((eM M 0 1:Int):Rat)*c 1=x 1:=by
 have h0:=h 0 (by omega);have h1:=h 1 (by omega);simp only [QL,QH M (show 0<2 by omega),XM,if_true,if_neg (show ¬(1:Nat)=0 by omega)] at h0 h1;simp only [Rat.intCast_ofNat] at h0 h1;constructor
 ·rw [<-h0];grind
 ·rw [<-h1];grind
theorem CoV.e3 {M:Mx} {x c:Nat->Rat} (h:CoV 3 M x c):c 0+((eM M 0 0:Int):Rat)*c 1+((eM M 1 0:Int):Rat)*c 2=x 0/\((eM M 0 1:Int):Rat)*c 1+((eM M 1 1:Int):Rat)*c 2=x 1/\((eM M 0 2:Int):Rat)*c 1+((eM M 1 2:Int):Rat)*c 2=x 2:=by
 have h0:=h 0 (by omega);have h1:=h 1 (by omega);have h2:=h 2 (by omega);simp only [QL,QH M (show 0<3 by omega),XM,Kba,if_true,if_neg (show ¬(1:Nat)=0 by omega),if_neg (show ¬(2:Nat)=0 by omega)] at h0 h1 h2;simp only [Rat.intCast_ofNat] at h0 h1 h2;refine ⟨?_,?_,?_⟩
 ·rw [<-h0];grind
 ·rw [<-h1];grind
 ·rw [<-h2];grind
theorem CoV.mk2 {M:Mx} {x c:Nat->Rat} (h0:c 0+((eM M 0 0:Int):Rat)*c 1=x 0) (h1:((eM M 0 1:Int):Rat)*c 1=x 1):CoV 2 M x c:=λi hi=>by
 rcases (show i=0\/i=1 by omega) with rfl | rfl
 ·simp only [QL,QH M (show 0<2 by omega),XM,if_true];simp only [Rat.intCast_ofNat];rw [<-h0];grind
 ·simp only [QL,QH M (show 0<2 by omega),XM,if_neg (show ¬(1:Nat)=0 by omega)];simp only [Rat.intCast_zero];rw [<-h1];grind
theorem CoV.sub {n:Nat} {M:Mx} {x y c d:Nat->Rat} (h:CoV n M x c) (k:CoV n M y d):CoV n M (λi=>x i-y i) (λj=>c j-d j):=λi hi=>by
 have e:=Y6 (λj=>((eM (bsM n M) j i:Int):Rat)*c j) (λj=>(-1)*(((eM (bsM n M) j i:Int):Rat)*d j)) (λj=>((eM (bsM n M) j i:Int):Rat)*(c j-d j)) (λj=>by grind) n;rw [e,KbB,h i hi,k i hi];grind
theorem CoV.add {n:Nat} {M:Mx} {x y c d:Nat->Rat} (h:CoV n M x c) (k:CoV n M y d):CoV n M (λi=>x i+y i) (λj=>c j+d j):=λi hi=>by
 have e:=Y6 (λj=>((eM (bsM n M) j i:Int):Rat)*c j) (λj=>((eM (bsM n M) j i:Int):Rat)*d j) (λj=>((eM (bsM n M) j i:Int):Rat)*(c j+d j)) (λj=>by grind) n;rw [e,h i hi,k i hi]
theorem CoV.congr {n:Nat} {M:Mx} {x y c d:Nat->Rat} (h:CoV n M x c) (hx : ∀i,i<n->x i=y i) (hc : ∀j,j<n->c j=d j):CoV n M y d:=λi hi=>by
 rw [<-hx i hi,<-h i hi];exact Qt n λj hj=>by rw [hc j hj]
theorem CoV.self (n:Nat) (M:Mx) (q:Nat->Int):CoV n M (λi=>((KD (λj=>q j*eM (bsM n M) j i) n:Int):Rat)) (λj=>((q j:Int):Rat)):=λi hi=>by
 show QL (λj=>((eM (bsM n M) j i:Int):Rat)*((q j:Int):Rat)) n=((KD (λj=>q j*eM (bsM n M) j i) n:Int):Rat)
 rw [KaE];exact Qt n λj hj=>by rw [Rat.intCast_mul,Rat.mul_comm]
theorem BkM.sgn {n:Nat} {M:Mx} {v:List Int} (h:BkM n M v) : ∃s:Int,(s=1\/s = -1) /\ ∀i,v.getD i 0=s*(mnL n M).getD i 0:=by
 by_cases h0:(mnL n M).getD 0 0<0
 ·refine ⟨-1,.inr rfl,λi => ?_⟩;rw [h.vv];unfold ZZ
  rw [if_pos h0,List.getD_eq_getElem?_getD,List.getElem?_map,List.getD_eq_getElem?_getD]
  cases (mnL n M)[i]? with
  | none=>rfl
  | some z=>show 0-z = -1*z;omega
 ·refine ⟨1,.inl rfl,λi => ?_⟩;rw [h.vv];unfold ZZ
  rw [if_neg h0,Int.one_mul]
theorem BkM.nz {n:Nat} {M:Mx} {v:List Int} (h:BkM n M v):(mnL n M).getD 0 0≠0:=λe=>by
 obtain ⟨s,_,hs⟩:=h.sgn;have:=hs 0;rw [e] at this;have:=h.pos;simp at *;omega
theorem BkM.vlen {n:Nat} {M:Mx} {v:List Int} (h:BkM n M v):v.length=n:=by
 have:(mnL n M).length=n:=by
  unfold mnL
  rcases h.hn with rfl | rfl
  ·rw [if_pos rfl];rfl
  ·rw [if_neg (by omega)];rfl
 rw [h.vv];unfold ZZ
 split
 ·rw [List.length_map,this]
 ·exact this
theorem Kb2 (M:Mx) (i:Nat):(mnL 2 M).getD i 0=if i=0 then 0-eM M 0 1 else if i=1 then eM M 0 0 else 0:=by
 unfold mnL;rw [if_pos rfl]
 match i with
 | 0=>rfl
 | 1=>rfl
 | i+2=>rw [if_neg (by omega),if_neg (by omega)];rfl
theorem Kc0 (M:Mx):(mnL 3 M).getD 0 0=eM M 0 1*eM M 1 2-eM M 0 2*eM M 1 1/\(mnL 3 M).getD 1 0=eM M 0 2*eM M 1 0-eM M 0 0*eM M 1 2/\(mnL 3 M).getD 2 0=eM M 0 0*eM M 1 1-eM M 0 1*eM M 1 0:=by
 unfold mnL;rw [if_neg (by omega)];exact ⟨rfl,rfl,rfl⟩
theorem Yf {z:Int} (h:z≠0):((z:Int):Rat)≠0:=λe=>h (by exact_mod_cast e)
theorem BkM.non {n:Nat} {M:Mx} {v:List Int} (h:BkM n M v) {c:Nat->Rat} (hc:CoV n M (λ_=>0) c) : ∀j,j<n->c j=0:=by
 have hz:=h.nz
 rcases h.hn with rfl | rfl
 ·obtain ⟨h0,h1⟩:=hc.e2;rw [Kb2,if_pos rfl] at hz;have hq:=Yf (show eM M 0 1≠0 by omega);have k1:c 1=0:=QC hq (by grind);have k0:c 0=0:=by rw [k1] at h0;grind
  intro j hj
  rcases (show j=0\/j=1 by omega) with rfl | rfl
  ·exact k0
  ·exact k1
 ·obtain ⟨h0,h1,h2⟩:=hc.e3;rw [(Kc0 M).1] at hz;have hq:=Yf hz;rw [Rat.intCast_sub,Rat.intCast_mul,Rat.intCast_mul] at hq
  have k1:c 1=0:=QC hq (by
   have e1:((eM M 1 2:Int):Rat)*(((eM M 0 1:Int):Rat)*c 1+((eM M 1 1:Int):Rat)*c 2)=0:=by rw [h1];grind
   have e2:((eM M 1 1:Int):Rat)*(((eM M 0 2:Int):Rat)*c 1+((eM M 1 2:Int):Rat)*c 2)=0:=by rw [h2];grind
   grind)
  have k2:c 2=0:=QC hq (by
   have e1:((eM M 0 2:Int):Rat)*(((eM M 0 1:Int):Rat)*c 1+((eM M 1 1:Int):Rat)*c 2)=0:=by rw [h1];grind
   have e2:((eM M 0 1:Int):Rat)*(((eM M 0 2:Int):Rat)*c 1+((eM M 1 2:Int):Rat)*c 2)=0:=by rw [h2];grind
   grind)
  have k0:c 0=0:=by rw [k1,k2] at h0;grind
  intro j hj
  rcases (show j=0\/j=1\/j=2 by omega) with rfl | rfl | rfl
  ·exact k0
  ·exact k1
  ·exact k2
theorem BkM.uniq {n:Nat} {M:Mx} {v:List Int} (h:BkM n M v) {x c d:Nat->Rat} (hc:CoV n M x c) (hd:CoV n M x d) : ∀j,j<n->c j=d j:=λj hj=>by
 have:=h.non ((hc.sub hd).congr (λi _=>by grind) (λ_ _=>rfl)) j hj
 grind
theorem BkM.first {n:Nat} {M:Mx} {v:List Int} (h:BkM n M v) {x c:Nat->Rat} (hc:CoV n M x c):((v.getD 0 0:Int):Rat)*c 0=QL (λi=>((v.getD i 0:Int):Rat)*x i) n:=by
 obtain ⟨s,_,hs⟩:=h.sgn
 rcases h.hn with rfl | rfl
 ·obtain ⟨h0,h1⟩:=hc.e2;simp only [QL,hs,Kb2,if_true,if_neg (show ¬(1:Nat)=0 by omega),Rat.intCast_mul,Rat.intCast_sub,Rat.intCast_zero];rw [<-h0,<-h1];grind
 ·obtain ⟨h0,h1,h2⟩:=hc.e3;obtain ⟨m0,m1,m2⟩:=Kc0 M;simp only [QL,hs,m0,m1,m2,Rat.intCast_mul,Rat.intCast_sub];rw [<-h0,<-h1,<-h2];grind
theorem BkM.orth {n:Nat} {M:Mx} {v:List Int} (h:BkM n M v) {k:Nat} (hk:k<M.length):KD (λi=>v.getD i 0*eM M k i) n=0:=by
 obtain ⟨s,_,hs⟩:=h.sgn;have hl:=h.len
 rcases h.hn with rfl | rfl
 ·obtain rfl:k=0:=by omega
  simp only [KD,hs,Kb2,if_true,if_neg (show ¬(1:Nat)=0 by omega)]
  grind
 ·obtain ⟨m0,m1,m2⟩:=Kc0 M;simp only [KD,hs,m0,m1,m2]
  rcases (show k=0\/k=1 by omega) with rfl | rfl<;>grind
def QQ (O:List Rat) (j:Nat):Rat:=if j=0 then 0 else O.getD (j-1) 0
def qE (O:List Rat) (c:Nat->Rat) (j:Nat):Int:=(c j-QQ O j).floor
def Kcb (n:Nat) (M:Mx) (O:List Rat) (x:Nat->Int) (c:Nat->Rat) (i:Nat):Int:=x i-KD (λj=>qE O c j*eM (bsM n M) j i) n
theorem Kj7 {n:Nat} {M:Mx} (O:List Rat) {x:Nat->Int} {c:Nat->Rat} (hc:CoV n M (λi=>((x i:Int):Rat)) c):CoV n M (λi=>((Kcb n M O x c i:Int):Rat)) (λj=>c j-((qE O c j:Int):Rat)) :=
 (hc.sub (CoV.self n M (qE O c))).congr (λi _=>by show _=((x i-_:Int):Rat);rw [Rat.intCast_sub]) (λ_ _=>rfl)
theorem YT (r:Rat) (k:Int):r.floor=k↔((k:Int):Rat)<=r/\r<((k:Int):Rat)+1:=by
 constructor
 ·rintro rfl;exact ⟨Rat.floor_le r,by have:=Rat.lt_floor_add_one r;rwa [Rat.intCast_add] at this⟩
 ·rintro ⟨h1,h2⟩;have h3:k<=r.floor:=Rat.le_floor_iff.2 h1;have h4:r.floor<k+1:=Rat.floor_lt_iff.2 (by rw [Rat.intCast_add];exact h2);omega
theorem Kd6 (O:List Rat) (c:Nat->Rat) (j:Nat):0<=c j-((qE O c j:Int):Rat)-QQ O j/\c j-((qE O c j:Int):Rat)-QQ O j<1:=by
 obtain ⟨h1,h2⟩:=(YT (c j-QQ O j) (qE O c j)).1 rfl;constructor<;>grind
theorem Kqi (O:List Rat) (c:Nat->Rat) (k:Nat->Int) (j:Nat):qE O (λj=>c j+((k j:Int):Rat)) j=qE O c j+k j:=by
 unfold qE;rw [YT];obtain ⟨h1,h2⟩:=(YT (c j-QQ O j) _).1 rfl;rw [Rat.intCast_add];constructor<;>grind
theorem YE {a t:Rat} (h1 : -8<=a) (h2:a<=8) (h3 : -13<=t) (h4:t<=13) : -104<=a*t/\a*t<=104:=by
 have p1:0<=(8-a)*(13-t):=Rat.mul_nonneg (by grind) (by grind);have p2:0<=(8+a)*(13+t):=Rat.mul_nonneg (by grind) (by grind);have p3:0<=(8-a)*(13+t):=Rat.mul_nonneg (by grind) (by grind);have p4:0<=(8+a)*(13-t):=Rat.mul_nonneg (by grind) (by grind);constructor<;>grind
theorem BkM.el {n:Nat} {M:Mx} {v:List Int} (h:BkM n M v) (i j:Nat):(-8:Rat)<=((eM M i j:Int):Rat)/\((eM M i j:Int):Rat)<=8:=by
 have hb:(eM M i j).natAbs<=8:=by
  unfold eM;rw [List.getD_eq_getElem?_getD,List.getD_eq_getElem?_getD]
  by_cases hi:i<M.length
  ·rw [List.getElem?_eq_getElem hi];show ((M[i])[j]?.getD 0).natAbs<=8
   by_cases hj:j<M[i].length
   ·rw [List.getElem?_eq_getElem hj];exact h.bd _ (List.getElem_mem hi) _ (List.getElem_mem hj)
   ·rw [List.getElem?_eq_none (by omega)];simp
  ·rw [List.getElem?_eq_none (l:=M) (i:=i) (by omega)];simp
 have h1:((-8:Int):Rat)<=((eM M i j:Int):Rat):=Rat.intCast_le_intCast.2 (by omega);have h2:((eM M i j:Int):Rat)<=((8:Int):Rat):=Rat.intCast_le_intCast.2 (by omega);exact ⟨h1,h2⟩
theorem BkM.small {n:Nat} {M:Mx} {v:List Int} (h:BkM n M v) {O:List Rat} (hO : ∀j,-12<=QQ O j/\QQ O j<=12) {x:Nat->Int} {c:Nat->Rat} (hc:CoV n M (λi=>((x i:Int):Rat)) c) : ∀i,i<n -> -300<=Kcb n M O x c i/\Kcb n M O x c i<=300:=by
 have hr:=Kj7 O hc
 have hq : ∀j,-13<=c j-((qE O c j:Int):Rat)/\c j-((qE O c j:Int):Rat)<=13:=λj=>by
  have h1:=Kd6 O c j;have h2:=hO j;constructor<;>grind
 have hq0:=hq 0;have hq1:=hq 1;have hq2:=hq 2
 have fin : ∀z:Int,(-300:Rat)<=((z:Int):Rat)->((z:Int):Rat)<=300 -> -300<=z/\z<=300:=λz h1 h2=>by
  have h3:((-300:Int):Rat)<=((z:Int):Rat):=h1;have h4:((z:Int):Rat)<=((300:Int):Rat):=h2;exact ⟨Rat.intCast_le_intCast.1 h3,Rat.intCast_le_intCast.1 h4⟩
 rcases h.hn with rfl | rfl
 ·obtain ⟨e0,e1⟩:=hr.e2;have a:=YE (h.el 0 0).1 (h.el 0 0).2 hq1.1 hq1.2;have b:=YE (h.el 0 1).1 (h.el 0 1).2 hq1.1 hq1.2;intro i hi
  rcases (show i=0\/i=1 by omega) with rfl | rfl
  ·exact fin _ (by grind) (by grind)
  ·exact fin _ (by grind) (by grind)
 ·obtain ⟨e0,e1,e2⟩:=hr.e3;have a0:=YE (h.el 0 0).1 (h.el 0 0).2 hq1.1 hq1.2;have a1:=YE (h.el 0 1).1 (h.el 0 1).2 hq1.1 hq1.2;have a2:=YE (h.el 0 2).1 (h.el 0 2).2 hq1.1 hq1.2;have b0:=YE (h.el 1 0).1 (h.el 1 0).2 hq2.1 hq2.2;have b1:=YE (h.el 1 1).1 (h.el 1 1).2 hq2.1 hq2.2;have b2:=YE (h.el 1 2).1 (h.el 1 2).2 hq2.1 hq2.2;intro i hi
  rcases (show i=0\/i=1\/i=2 by omega) with rfl | rfl | rfl
  ·exact fin _ (by grind) (by grind)
  ·exact fin _ (by grind) (by grind)
  ·exact fin _ (by grind) (by grind)
theorem BkM.steps {n:Nat} {M:Mx} {v:List Int} (h:BkM n M v) (O:List Rat) (x:Nat->Int) (c:Nat->Rat):KD (λi=>v.getD i 0*Kcb n M O x c i) n=KD (λi=>v.getD i 0*x i) n-qE O c 0*v.getD 0 0:=by
 have ho:=λk hk=>h.orth (k:=k) hk
 have hl:=h.len
 rcases h.hn with rfl | rfl
 ·have h0:=ho 0 (by omega);unfold Kcb;simp only [KD,QH M (show 0<2 by omega),XM,if_true,if_neg (show ¬(1:Nat)=0 by omega)] at h0 ⊢
  grind
 ·have h0:=ho 0 (by omega);have h1:=ho 1 (by omega);unfold Kcb;simp only [KD,QH M (show 0<3 by omega),XM,Kba,if_true,if_neg (show ¬(1:Nat)=0 by omega),if_neg (show ¬(2:Nat)=0 by omega)] at h0 h1 ⊢
  grind
theorem BkM.eqv {n:Nat} {M:Mx} {v:List Int} (h:BkM n M v) (O:List Rat) {x:Nat->Int} {c:Nat->Rat} (hc:CoV n M (λi=>((x i:Int):Rat)) c) {k:Int} (hk:KD (λi=>v.getD i 0*x i) n=k):qE O c 0=k.fdiv (v.getD 0 0):=by
 have h1:=h.first hc
 have h2:QL (λi=>((v.getD i 0:Int):Rat)*((x i:Int):Rat)) n=((k:Int):Rat):=by
  rw [<-hk,KaE];exact Qt n λi _=>by rw [Rat.intCast_mul]
 rw [h2] at h1;have hp:=h.pos;generalize v.getD 0 0=N at *;unfold qE;rw [YT];have e0:QQ O 0=0:=rfl;rw [e0];have hm:=Int.mul_fdiv_add_fmod k N;have m0:=Int.fmod_nonneg_of_pos k hp;have m1:=Int.fmod_lt_of_pos k hp;generalize k.fdiv N=q at *;generalize k.fmod N=r at *;have hN:(0:Rat)<((N:Int):Rat):=Rat.intCast_pos.2 hp;have hr0:(0:Rat)<=((r:Int):Rat):=Rat.intCast_nonneg.2 m0;have hr1:((r:Int):Rat)<((N:Int):Rat):=Rat.intCast_lt_intCast.2 m1;have hk2:((k:Int):Rat)=((N:Int):Rat)*((q:Int):Rat)+((r:Int):Rat):=by rw [<-Rat.intCast_mul,<-Rat.intCast_add,hm]
 rw [hk2] at h1;have h3:((N:Int):Rat)*(c 0-((q:Int):Rat))=((r:Int):Rat):=by grind
 constructor
 ·refine Rat.not_lt.1 λhlt => ?_
  have:=Rat.mul_pos hN (show 0<((q:Int):Rat)-c 0 by grind)
  grind
 ·refine Rat.not_le.1 λhle => ?_
  have:=Rat.mul_nonneg (Rat.le_of_lt hN) (show 0<=c 0-((q:Int):Rat)-1 by grind)
  grind
def gV (v:List Int):Nat->Nat
 | 0=>0
 | i+1=>Nat.gcd (gV v i) (v.getD i 0).natAbs
theorem KmN {v:List Int} {d:Int} : ∀{i:Nat},(∀t,t<i->d∣v.getD t 0)->d∣((gV v i:Nat):Int)
 | 0,_=>Int.dvd_zero _
 | i+1,h=>by
  have h1:=KmN (λt ht=>h t (show t<i+1 by omega)) (i:=i);have h2:=h i (by omega);have h3:d.natAbs∣gV v i:=by simpa using Int.natAbs_dvd_natAbs.2 h1
  have h4:d.natAbs∣(v.getD i 0).natAbs:=Int.natAbs_dvd_natAbs.2 h2;have h5:d.natAbs∣gV v (i+1):=Nat.dvd_gcd h3 h4;exact Int.natAbs_dvd_natAbs.1 (by rw [Int.natAbs_natCast];exact h5)
theorem Kmp {v:List Int} : ∀{i t:Nat},t<i->((gV v i:Nat):Int)∣v.getD t 0
 | i+1,t,h=>by
  rcases Nat.lt_or_ge t i with h1 | h1
  ·have h2:=Kmp (v:=v) h1;have h3:gV v (i+1)∣gV v i:=Nat.gcd_dvd_left _ _;exact Int.dvd_trans (Int.natCast_dvd_natCast.2 h3) h2
  ·obtain rfl:t=i:=by omega
   have h3:gV v (t+1)∣(v.getD t 0).natAbs:=Nat.gcd_dvd_right _ _;exact Int.natAbs_dvd_natAbs.1 (by simpa using h3)
theorem KmO {v:List Int}:gV v v.length=1 ↔ ∀d:Int,(∀z∈v,d∣z)->d∣1:=by
 constructor
 ·intro h d hd
  have:=KmN (v:=v) (d:=d) (i:=v.length) (λt ht=>by
   rw [List.getD_eq_getElem?_getD,List.getElem?_eq_getElem ht];exact hd _ (List.getElem_mem ht))
  rw [h] at this;exact this
 ·intro h
  have h1:=h (gV v v.length) (λz hz=>by
   obtain ⟨t,ht,rfl⟩:=List.getElem_of_mem hz;have:=Kmp (v:=v) ht
   rwa [List.getD_eq_getElem?_getD,List.getElem?_eq_getElem ht] at this)
  have h2:gV v v.length∣1:=Int.natCast_dvd_natCast.1 h1;exact Nat.dvd_one.1 h2
theorem KmP {g a:Int}:Nat.gcd a.natAbs (g.tmod a).natAbs=Nat.gcd g.natAbs a.natAbs:=by
 rw [Int.natAbs_tmod,Nat.gcd_comm g.natAbs,Nat.gcd_rec a.natAbs g.natAbs,Nat.gcd_comm]
theorem Ko4 {g a:Int} (h:a≠0):(g.tmod a).natAbs<a.natAbs:=by
 rw [Int.natAbs_tmod];exact Nat.mod_lt _ (by omega)
def okV (n:Nat) (M:Mx):Bool:=decide (gV (mnL n M) n=1/\(mnL n M).getD 0 0≠0)
theorem Ym {n:Nat} (M:Mx) (h:n=2\/n=3):(mnL n M).length=n:=by
 unfold mnL
 rcases h with rfl | rfl
 ·rw [if_pos rfl];rfl
 ·rw [if_neg (by omega)];rfl
theorem KlH (n:Nat) (M:Mx) (i:Nat):(ZZ n M).getD i 0=if (mnL n M).getD 0 0<0 then 0-(mnL n M).getD i 0 else (mnL n M).getD i 0:=by
 unfold ZZ;split
 ·rw [List.getD_eq_getElem?_getD,List.getElem?_map,List.getD_eq_getElem?_getD]
  cases (mnL n M)[i]? with
  | none=>rfl
  | some z=>rfl
 ·rfl
theorem KnS {n:Nat} {M:Mx} {d:Int}:(∀z∈ZZ n M,d∣z) -> ∀z∈mnL n M,d∣z:=by
 intro h z hz;unfold ZZ at h;split at h
 ·have:=h (0-z) (List.mem_map.2 ⟨z,hz,rfl⟩);rw [Int.zero_sub] at this;exact (Int.dvd_neg).1 this
 ·exact h z hz
theorem KoI {n:Nat} {M:Mx} {d:Int} (h : ∀z∈mnL n M,d∣z) : ∀z∈ZZ n M,d∣z:=by
 intro z hz;unfold ZZ at hz;split at hz
 ·obtain ⟨y,hy,rfl⟩:=List.mem_map.1 hz;exact Int.dvd_sub (Int.dvd_zero _) (h y hy)
 ·exact h z hz
theorem BkM.mk' {n:Nat} {M:Mx} (hn:n=2\/n=3) (hl:M.length+1=n) (hR:Ku n M) (hb : ∀r∈M,∀z∈r,z.natAbs<=8) (hok:okV n M=true) (hle:(ZZ n M).getD 0 0<=100):BkM n M (ZZ n M):=by
 unfold okV at hok;obtain ⟨h1,h2⟩:=of_decide_eq_true hok;have h3:gV (mnL n M) (mnL n M).length=1:=by rw [Ym M hn];exact h1
 refine ⟨hn,hl,hR,hb,rfl,?_,hle,λd hd=>KmO.1 h3 d (KnS hd)⟩;rw [KlH];split<;>omega
theorem BkM.okV {n:Nat} {M:Mx} {v:List Int} (h:BkM n M v):okV n M=true:=by
 refine decide_eq_true ⟨?_,h.nz⟩;have h1:gV (mnL n M) (mnL n M).length=1:=KmO.2 λd hd=>h.gcd d (by rw [h.vv];exact KoI hd)
 rwa [Ym M h.hn] at h1
theorem KgU {w:World} {v:Value} {M:Mx} (hM:KJ w v M) :
  Calls Tryz.prog 51 #[v] w λe w'=>e = .returned (.int .i64 (KX M))/\Ext w w':=by
 obtain ⟨sa,gb,go,cap,vs,rfl,hcap,hvl,hS,hr⟩:=hM
 by_cases h0:M.length=0
 ·have hn:KX M=0:=by
   have:M=[]:=List.eq_nil_of_length_eq_zero h0;rw [this];rfl
  rw [h0,hn];clear hS hr hvl h0 hcap hn
  go_enter Tryz.func51,Tryz.ntmps51
  go_wp2_with fail;go_ret;exact ⟨rfl,Ext.refl _⟩
 ·have hi0:0<M.length:=by omega
  obtain rfl:=hS.addr (by rw [hvl];omega);obtain ⟨s0,b0,o0,c0,hrow0,hrc0,hS0⟩:=KJ.row hS hvl hr hi0;have hn:M[0].length=KX M:=by unfold KX;rw [Ka hi0]
  rw [hn,Nat.add_zero] at hrow0;have hb:((M.length:Int)==0)=false:=beq_eq_false_iff_ne.2 (by omega);have hb2 : ¬(M.length:Int)=0:=by omega
  clear hS hr hvl hn hS0 hrc0
  go_enter Tryz.func51,Tryz.ntmps51
  go_wp2_with fail;go_ret;exact ⟨rfl,Ext.refl _⟩
structure SmM (M:Mx):Prop where
 n3:M.length<=3
 c3:KX M<=3
 rect:Ku (KX M) M
 ent : ∀r∈M,∀z∈r,-9<=z/\z<=9
structure Wa where
 p:Nat
 ga:Nat
 ca:Nat
 gl:Nat
 cl:Nat
 gr:Nat
 cr:Nat
structure WkR (B:Nat) (w:World) (n c:Nat) (x:Wa) (aa al ar:List (Nat×Nat)) (s:Dg):Prop where
 c0:w.cell? ⟨x.p,0,none⟩=some (slv x.ga n x.ca)
 c1:w.cell? ⟨x.p,1,none⟩=some (slv x.gl n x.cl)
 c2:w.cell? ⟨x.p,2,none⟩=some (slv x.gr c x.cr)
 c3:w.cell? ⟨x.p,3,none⟩=some (.int .i64 c)
 a:GrX B w (slv x.ga s.a.length x.ca) s.a aa
 l:GrX B w (slv x.gl s.l.length x.cl) s.l al
 r:GrX B w (slv x.gr s.r.length x.cr) s.r ar
 la:s.a.length=n
 ll:s.l.length=n
 lr:s.r.length=c
 ra:Ku c s.a
 rl:Ku n s.l
 rr:Ku c s.r
 pB:B<=x.p
 po:x.p≠x.ga/\x.p≠x.gl/\x.p≠x.gr
 pi:(∀y∈aa,y.1≠x.p)/\(∀y∈al,y.1≠x.p) /\ ∀y∈ar,y.1≠x.p
 oo:x.ga≠x.gl/\x.ga≠x.gr/\x.gl≠x.gr
 ii:(∀y∈aa,∀z∈al,y.1≠z.1)/\(∀y∈aa,∀z∈ar,y.1≠z.1) /\ ∀y∈al,∀z∈ar,y.1≠z.1
section
variable {B:Nat} {w w':World} {n c:Nat} {x:Wa} {aa al ar:List (Nat×Nat)} {s:Dg}
theorem WkR.ext (h:WkR B w n c x aa al ar s) (he:Ext w w'):WkR B w' n c x aa al ar s :=
 ⟨he.cell h.c0,he.cell h.c1,he.cell h.c2,he.cell h.c3,h.a.ext he,h.l.ext he,h.r.ext he,h.la,h.ll,h.lr,h.ra,h.rl,h.rr,h.pB,h.po,h.pi,h.oo,h.ii⟩
theorem GrX.atM {g cap m i:Nat} {F:Mx} {ad:List (Nat×Nat)} (h:GrX B w (slv g F.length cap) F ad) (hR:Ku m F) (hm:0<m) (hi:i<F.length) :
  ∃gx cx,ad[i]? = some (gx,cx)/\(gx,cx)∈ad/\w.cell? ⟨g,i,none⟩=some (slv gx m cx)/\Kd 45 B w gx cx (ss (F.getD i []))/\(F.getD i []).length=m /\ ∀k,k<m->w.cell? ⟨gx,k,none⟩=some (I (eM F i k)):=by
 obtain ⟨gx,cx,h1,h2,h3,h4,h5⟩:=h.at hR hm hi;refine ⟨gx,cx,h1,List.mem_of_getElem? h1,h2,h3,h5,λk hk => ?_⟩;rw [h3.cell (j:=k) (by rw [Kx,h5];exact hk)];exact congrArg some (KhX (by rw [h5];exact hk) _)
theorem GrX.neM {g cap m i t gi ci gt ct:Nat} {F:Mx} {ad:List (Nat×Nat)} (h:GrX B w (slv g F.length cap) F ad) (hR:Ku m F) (hm:0<m) (hi:i<F.length) (ht:t<F.length) (hne:i≠t) (hai:ad[i]? = some (gi,ci)) (hat:ad[t]? = some (gt,ct)):gi≠gt:=by
 obtain ⟨h1,e1⟩:=List.getElem?_eq_some_iff.1 hai;obtain ⟨h2,e2⟩:=List.getElem?_eq_some_iff.1 hat;have:=h.dis i t h1 h2 hi ht (by rw [hR _ (List.getElem_mem hi)];exact hm) (by rw [hR _ (List.getElem_mem ht)];exact hm) hne;rw [e1,e2] at this;exact this
theorem Y4 {m i:Nat} {F:Mx} {r:List Int} (hR:Ku m F) (hr:r.length=m):Ku m (F.set i r):=λs hs=>by
 rcases List.mem_or_eq_of_mem_set hs with hs | rfl
 ·exact hR s hs
 ·exact hr
theorem Kdh {α:Type} {l:List α} {d:α} {i j:Nat} (hi:i<l.length) (hj:j<l.length) {y:α} (h:y∈sw2 l d i j):y∈l:=by
 obtain ⟨t,ht,rfl⟩:=List.getElem_of_mem h;rw [KS l d hi hj ht];exact List.getElem_mem _
theorem Knn {m i j:Nat} {F:Mx} (hR:Ku m F) (hi:i<F.length) (hj:j<F.length):Ku m (sw2 F [] i j):=λs hs=>hR s (Kdh hi hj hs)
theorem GrX.keepG {g cap:Nat} {F:Mx} {ad:List (Nat×Nat)} {q:Nat} (h:GrX B w (slv g F.length cap) F ad) (hG:w.grownBy w' (some q)) (hg:g≠q) (ha : ∀y∈ad,y.1≠q):GrX B w' (slv g F.length cap) F ad :=
 h.keep (Chg.of_grown (R:=λk=>k=q) hG rfl) hg (λ_ hi _ _=>ha _ (List.getElem_mem hi))
theorem WkR.setA {i gx cx:Nat} {u:List Int} (h:WkR B w n c x aa al ar s) (hc:0<c) (hi:i<n) (hai:aa[i]? = some (gx,cx)) (hu:u.length=c) (hO:Kd 45 B w' gx cx (ss u)) (hG:w.grownBy w' (some gx)):WkR B w' n c x aa al ar { s with a:=s.a.set i u }:=by
 have hm:=List.mem_of_getElem? hai;have hin:i<s.a.length:=by rw [h.la];exact hi
 obtain ⟨gx',cx',e1,_,_,o1,l1,_⟩:=h.a.atM h.ra hc hin;rw [hai] at e1;injection e1 with e1;injection e1 with e1 e2;subst e1 e2
 have hC:Chg (λk=>k=gx) w w':=Chg.of_grown hG rfl;have hp:x.p≠gx:=Ne.symm (h.pi.1 _ hm);have h1:=h.a.wrote (r:=u) hin hai (by rw [hu,l1]) (by omega) hO hC;refine ⟨hC.cell hp h.c0,hC.cell hp h.c1,hC.cell hp h.c2,hC.cell hp h.c3,?_,h.l.keepG hG (Ne.symm (K7 h.l.outer o1)) (λy hy=>Ne.symm (h.ii.1 _ hm y hy)),h.r.keepG hG (Ne.symm (K7 h.r.outer o1)) (λy hy=>Ne.symm (h.ii.2.1 _ hm y hy)),?_,h.ll,h.lr,Y4 h.ra hu,h.rl,h.rr,h.pB,h.po,h.pi,h.oo,h.ii⟩
 ·show GrX B w' (slv x.ga (s.a.set i u).length x.ca) _ _;rw [List.length_set];exact h1
 ·show (s.a.set i u).length=n;rw [List.length_set];exact h.la
theorem WkR.setL {i gx cx:Nat} {u:List Int} (h:WkR B w n c x aa al ar s) (hi:i<n) (hai:al[i]? = some (gx,cx)) (hu:u.length=n) (hO:Kd 45 B w' gx cx (ss u)) (hG:w.grownBy w' (some gx)):WkR B w' n c x aa al ar { s with l:=s.l.set i u }:=by
 have hm:=List.mem_of_getElem? hai;have hin:i<s.l.length:=by rw [h.ll];exact hi
 obtain ⟨gx',cx',e1,_,_,o1,l1,_⟩:=h.l.atM h.rl (by omega) hin;rw [hai] at e1;injection e1 with e1;injection e1 with e1 e2;subst e1 e2
 have hC:Chg (λk=>k=gx) w w':=Chg.of_grown hG rfl;have hp:x.p≠gx:=Ne.symm (h.pi.2.1 _ hm);have h1:=h.l.wrote (r:=u) hin hai (by rw [hu,l1]) (by omega) hO hC;refine ⟨hC.cell hp h.c0,hC.cell hp h.c1,hC.cell hp h.c2,hC.cell hp h.c3,h.a.keepG hG (Ne.symm (K7 h.a.outer o1)) (λy hy=>h.ii.1 y hy _ hm),?_,h.r.keepG hG (Ne.symm (K7 h.r.outer o1)) (λy hy=>Ne.symm (h.ii.2.2 _ hm y hy)),h.la,?_,h.lr,h.ra,Y4 h.rl hu,h.rr,h.pB,h.po,h.pi,h.oo,h.ii⟩
 ·show GrX B w' (slv x.gl (s.l.set i u).length x.cl) _ _;rw [List.length_set];exact h1
 ·show (s.l.set i u).length=n;rw [List.length_set];exact h.ll
theorem WkR.setR {i gx cx:Nat} {u:List Int} (h:WkR B w n c x aa al ar s) (hi:i<c) (hai:ar[i]? = some (gx,cx)) (hu:u.length=c) (hO:Kd 45 B w' gx cx (ss u)) (hG:w.grownBy w' (some gx)):WkR B w' n c x aa al ar { s with r:=s.r.set i u }:=by
 have hm:=List.mem_of_getElem? hai;have hin:i<s.r.length:=by rw [h.lr];exact hi
 obtain ⟨gx',cx',e1,_,_,o1,l1,_⟩:=h.r.atM h.rr (by omega) hin;rw [hai] at e1;injection e1 with e1;injection e1 with e1 e2;subst e1 e2
 have hC:Chg (λk=>k=gx) w w':=Chg.of_grown hG rfl;have hp:x.p≠gx:=Ne.symm (h.pi.2.2 _ hm);have h1:=h.r.wrote (r:=u) hin hai (by rw [hu,l1]) (by omega) hO hC;refine ⟨hC.cell hp h.c0,hC.cell hp h.c1,hC.cell hp h.c2,hC.cell hp h.c3,h.a.keepG hG (Ne.symm (K7 h.a.outer o1)) (λy hy=>h.ii.2.1 y hy _ hm),h.l.keepG hG (Ne.symm (K7 h.l.outer o1)) (λy hy=>h.ii.2.2 y hy _ hm),?_,h.la,h.ll,?_,h.ra,h.rl,Y4 h.rr hu,h.pB,h.po,h.pi,h.oo,h.ii⟩
 ·show GrX B w' (slv x.gr (s.r.set i u).length x.cr) _ _;rw [List.length_set];exact h1
 ·show (s.r.set i u).length=c;rw [List.length_set];exact h.lr
theorem WkR.swapA {i j gi ci gj cj:Nat} (h:WkR B w n c x aa al ar s) (hc:0<c) (hi:i<n) (hj:j<n) (hai:aa[i]? = some (gi,ci)) (haj:aa[j]? = some (gj,cj)) :
  WkR B ((w.setCell ⟨x.ga,i,none⟩ (slv gj c cj)).setCell ⟨x.ga,j,none⟩ (slv gi c ci)) n c x (sw2 aa (0,0) i j) al ar { s with a:=sw2 s.a [] i j }
   /\ w.grownBy ((w.setCell ⟨x.ga,i,none⟩ (slv gj c cj)).setCell ⟨x.ga,j,none⟩ (slv gi c ci)) (some x.ga):=by
 have hi':i<s.a.length:=by rw [h.la];exact hi
 have hj':j<s.a.length:=by rw [h.la];exact hj
 have hia:i<aa.length:=by rw [h.a.len];exact hi'
 have hja:j<aa.length:=by rw [h.a.len];exact hj'
 obtain ⟨h1,hG,h3⟩:=h.a.swapped h.ra hc hi' hj' hai haj;have hC:Chg (λk=>k=x.ga) w _:=Chg.of_grown hG rfl;have hp:=h.po.1;have ha : ∀y∈sw2 aa (0,0) i j,y∈aa:=λy hy=>Kdh hia hja hy
 refine ⟨⟨hC.cell hp h.c0,hC.cell hp h.c1,hC.cell hp h.c2,hC.cell hp h.c3,?_,h.l.keepG hG (Ne.symm h.oo.1) (λy hy e => ?_),h.r.keepG hG (Ne.symm h.oo.2.1) (λy hy e => ?_),?_,h.ll,h.lr,h3,h.rl,h.rr,h.pB,h.po,⟨λy hy=>h.pi.1 y (ha y hy),h.pi.2⟩,h.oo,⟨λy hy=>h.ii.1 y (ha y hy),λy hy=>h.ii.2.1 y (ha y hy),h.ii.2.2⟩⟩,hG⟩
 ·show GrX B _ (slv x.ga (sw2 s.a [] i j).length x.ca) _ _;rw [Qi];exact h1
 ·obtain ⟨t,ht,rfl⟩:=List.getElem_of_mem hy;have hts:t<s.l.length:=by rw [<-h.l.len];exact ht
  have hO:=h.l.row t hts ht (by rw [h.rl _ (List.getElem_mem hts)];omega);exact K7 h.a.outer hO e
 ·obtain ⟨t,ht,rfl⟩:=List.getElem_of_mem hy;have hts:t<s.r.length:=by rw [<-h.r.len];exact ht
  have hO:=h.r.row t hts ht (by rw [h.rr _ (List.getElem_mem hts)];omega);exact K7 h.a.outer hO e
 ·show (sw2 s.a [] i j).length=n;rw [Qi];exact h.la
theorem WkR.swapL {i j gi ci gj cj:Nat} (h:WkR B w n c x aa al ar s) (hc:0<c) (hi:i<n) (hj:j<n) (hai:al[i]? = some (gi,ci)) (haj:al[j]? = some (gj,cj)) :
  WkR B ((w.setCell ⟨x.gl,i,none⟩ (slv gj n cj)).setCell ⟨x.gl,j,none⟩ (slv gi n ci)) n c x aa (sw2 al (0,0) i j) ar { s with l:=sw2 s.l [] i j }
   /\ w.grownBy ((w.setCell ⟨x.gl,i,none⟩ (slv gj n cj)).setCell ⟨x.gl,j,none⟩ (slv gi n ci)) (some x.gl):=by
 have hi':i<s.l.length:=by rw [h.ll];exact hi
 have hj':j<s.l.length:=by rw [h.ll];exact hj
 have hia:i<al.length:=by rw [h.l.len];exact hi'
 have hja:j<al.length:=by rw [h.l.len];exact hj'
 obtain ⟨h1,hG,h3⟩:=h.l.swapped h.rl (by omega) hi' hj' hai haj;have hC:Chg (λk=>k=x.gl) w _:=Chg.of_grown hG rfl;have hp:=h.po.2.1;have ha : ∀y∈sw2 al (0,0) i j,y∈al:=λy hy=>Kdh hia hja hy
 refine ⟨⟨hC.cell hp h.c0,hC.cell hp h.c1,hC.cell hp h.c2,hC.cell hp h.c3,h.a.keepG hG h.oo.1 (λy hy e => ?_),?_,h.r.keepG hG (Ne.symm h.oo.2.2) (λy hy e => ?_),h.la,?_,h.lr,h.ra,h3,h.rr,h.pB,h.po,⟨h.pi.1,λy hy=>h.pi.2.1 y (ha y hy),h.pi.2.2⟩,h.oo,⟨λy hy z hz=>h.ii.1 y hy z (ha z hz),h.ii.2.1,λy hy=>h.ii.2.2 y (ha y hy)⟩⟩,hG⟩
 ·obtain ⟨t,ht,rfl⟩:=List.getElem_of_mem hy;have hts:t<s.a.length:=by rw [<-h.a.len];exact ht
  have hO:=h.a.row t hts ht (by rw [h.ra _ (List.getElem_mem hts)];omega);exact K7 h.l.outer hO e
 ·show GrX B _ (slv x.gl (sw2 s.l [] i j).length x.cl) _ _;rw [Qi];exact h1
 ·obtain ⟨t,ht,rfl⟩:=List.getElem_of_mem hy;have hts:t<s.r.length:=by rw [<-h.r.len];exact ht
  have hO:=h.r.row t hts ht (by rw [h.rr _ (List.getElem_mem hts)];omega);exact K7 h.l.outer hO e
 ·show (sw2 s.l [] i j).length=n;rw [Qi];exact h.ll
end
theorem KqY (w:World) (g n a h m b:Nat):(Instr.index 183 (.agg #[slv g n a,slv h m b]) (.int .i64 0)).run Tryz.prog w = .ok (slv g n a) w:=by
 simp [Instr.index,run_underlying Tryz.underlying183,asIntOf,go_sem]
theorem KqZ (w:World) (g n a h m b:Nat):(Instr.index 183 (.agg #[slv g n a,slv h m b]) (.int .i64 1)).run Tryz.prog w = .ok (slv h m b) w:=by
 simp [Instr.index,run_underlying Tryz.underlying183,asIntOf,go_sem]
def QI (f:List Int->List Int) (j:Nat) (A:Mx):Mx:=A.mapIdx λt l=>if t<j then f l else l
@[simp] theorem XU (f:List Int->List Int) (j:Nat) (A:Mx):(QI f j A).length=A.length:=by simp [QI]
theorem YV (f:List Int->List Int) (j:Nat) (A:Mx) {t:Nat} (h:t<A.length):(QI f j A)[t]'(by simpa using h)=if t<j then f A[t] else A[t]:=by simp [QI]
theorem Jm (f:List Int->List Int) (A:Mx):QI f 0 A=A:=List.ext_getElem (by simp) λt h1 h2=>by rw [YV f 0 A h2,if_neg (by omega)]
theorem Kaw (f:List Int->List Int) (A:Mx):QI f A.length A=A.map f:=List.ext_getElem (by simp) λt h1 h2=>by
 have ht:t<A.length:=by simpa using h1
 rw [YV f _ A ht,if_pos ht,List.getElem_map]
theorem Qv (f:List Int->List Int) {j:Nat} {A:Mx} (h:j<A.length):(QI f j A).getD j []=A.getD j []:=by
 rw [Ka (by simpa using h),YV f j A h,if_neg (by omega),Ka h]
theorem Jl (f:List Int->List Int) {j:Nat} {A:Mx} (h:j<A.length):QI f (j+1) A=(QI f j A).set j (f (A.getD j [])):=by
 refine List.ext_getElem (by simp) λt h1 h2 => ?_
 have ht:t<A.length:=by simpa using h1
 rw [YV f _ A ht]
 by_cases e:j=t
 ·subst e;rw [List.getElem_set_self,if_pos (by omega),Ka h]
 ·rw [List.getElem_set_ne e,YV f _ A ht]
  by_cases h3:t<j
  ·rw [if_pos h3,if_pos (by omega)]
  ·rw [if_neg h3,if_neg (by omega)]
end
end Go.Proofs.YtdmaofimeknkbaaGreatDoor
