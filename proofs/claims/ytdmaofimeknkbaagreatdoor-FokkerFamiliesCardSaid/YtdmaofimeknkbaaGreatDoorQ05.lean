/- Part 5 of the proof of the claim: contracts of the functions that it reaches, and plain laws; no condition. -/
import Derived.Test.YtdmaofimeknkbaaGreatDoorQ04
set_option maxRecDepth 100000
set_option maxHeartbeats 20000000
namespace Go.Proofs.YtdmaofimeknkbaaGreatDoor
section
open Go.RowKit
open Lib (hid)
theorem Kh5 {B:Nat} {w:World} {g cap:Nat} {p q:List Nat} {gb:Option Addr} {b2 o2 c2 at_ n:Nat} (hO0:KG B w g cap p) (h2:Sl w gb b2 o2 (us q)) (hne:b2≠g) (s1:Kz p) (s2:Kz q)
  (hl:at_+q.length+1<=p.length) (lp:p.length<=4000000000000) (hn:n<1000000000) :
  Calls Tryz.prog 151 #[slv g p.length cap,.slice gb q.length c2,.int .u64 n,.int .i64 at_] w λe w' => ∃(p':List Nat) (bw:Nat),e = .returned (.bool (decide (0<bw)))/\Hid (p'.length=p.length/\Kz p'/\p'.drop (at_+q.length+1)=p.drop (at_+q.length+1)/\bw<=1/\(vP p':Int)-bw*1000000000^(at_+q.length+1)=vP p-n*vP q*1000000000^at_)/\KG B w' g cap p'/\w.grownBy w' (some g):=by
 have H2:=hid h2;have S2:=hid s2;have hgl:=hO0.lt.2;clear h2 s2
 go_enter Tryz.func151,Tryz.ntmps151
 go_wp2
 go_loopw [9,10,11] (λbor cy idx wr => ∃(k c bw:Nat) (o:List Nat),k<=q.length+1/\idx = .int .i64 k/\cy = .int .u64 c/\c<1000000000/\bor = .int .i64 bw/\bw<=1/\o.length=p.length/\Hid (k=q.length+1->c=0)/\Hid ((Kz o/\o.drop (at_+q.length+1)=p.drop (at_+q.length+1))/\(vP o:Int)-(c+bw)*(1000000000^at_*1000000000^k)=vP p-n*vP (q.take k)*1000000000^at_)/\KG B wr g cap o/\w.grownBy wr (some g)) (λ_ _ idx _=>q.length+1-(intOf idx).toNat)
 case atStart=>exact ⟨0,0,0,p,by omega,rfl,rfl,by omega,rfl,by omega,rfl,λh=>rfl,⟨⟨s1,rfl⟩,by simp [vP]⟩,hO0,World.grownBy.refl _ _⟩
 case round =>
  obtain ⟨k,c,bw,o,hkq,rfl,rfl,hc9,rfl,hbw,hol,Hc0,Ho,hO,hG⟩:=hrel;clear hO0
  by_cases hk:k<=q.length
  ·have hik:at_+k<o.length:=by omega
   have hikp:at_+k<p.length:=by omega
   obtain ⟨x,hx⟩ : ∃x,x=o[at_+k]:=⟨_,rfl⟩
   have hx9:x<1000000000:=by rw [hx];exact K9 Ho.out.1.1 hik
   have hcell2:wr.cell? ⟨g,at_+k,none⟩=some (.int .u64 (x:Nat)):=by rw [hx];exact hO.cell hik
   have hfr:=hO.frozen (at_+k);have hcap:=hO.cap
   -- what is added to the carry: n times the element, or 0
   have main : ∀(cc:Nat),cc<=1000000000*1000000000-1->(∃b:Nat,(cc:Int)=c+n*b/\(vP (q.take (k+1)):Int)=vP (q.take k)+b*1000000000^k) -> ∀(bw' d:Nat),(d:Int)=x-cc%1000000000-bw+bw'*1000000000->d<1000000000 ->
     ((Kz (o.set (at_+k) d)/\(o.set (at_+k) d).drop (at_+q.length+1)=p.drop (at_+q.length+1))/\(vP (o.set (at_+k) d):Int)-((cc/1000000000:Nat)+bw')*(1000000000^at_*1000000000^(k+1))=vP p-n*vP (q.take (k+1))*1000000000^at_):=by
    intro cc hcc hb bw' d hd hd9;obtain ⟨b,hb1,hb2⟩:=hb;refine ⟨⟨ZX Ho.out.1.1 _ hd9,by rw [List.drop_set_of_lt (by omega)];exact Ho.out.1.2⟩,?_⟩;rw [Kcq _ _ _ hik,hb2,<-hx,Int.pow_add,Int.pow_succ (1000000000:Int) k];rw [hb1] at hd;have:=KlA (o:=x) (b:=b) (bw':=bw') Ho.out.2 hd;rw [show ((cc/1000000000:Nat):Int)=(cc:Int)/1000000000 by omega,hb1];exact this
   have Main:=hid main;clear main
   by_cases hlk:k<q.length
   ·obtain rfl:=H2.out.addr (by rw [Qa];omega);obtain ⟨b,hb⟩ : ∃b,b=q[k]:=⟨_,rfl⟩
    have hb9:b<1000000000:=by rw [hb];exact K9 S2.out hlk
    have hcell:wr.cell? ⟨b2,o2+k,none⟩=some (.int .u64 (b:Nat)):=by
     have h0:=H2.out.cell k _ (ZY hlk);rw [<-hb] at h0;rw [World.cell?_of_block (hG.block b2 (World.block_lt_of_cell? _ _ h0) (by simpa using hne))];exact h0
    have hab:=Kd0 hn hb9;obtain ⟨ab,hab'⟩ : ∃ab,ab=n*b:=⟨_,rfl⟩
    have habz:(n:Int)*(b:Int)=(ab:Int):=by rw [hab'];rfl
    rw [<-hab'] at hab;have M2:=hid (Main.out (c+ab) (by omega) ⟨b,by rw [habz];omega,by rw [XY q k hlk,<-hb]⟩);obtain ⟨c',hc'⟩ : ∃c',c'=(c+ab)/1000000000:=⟨_,rfl⟩
    have hc'9:c'<1000000000:=by omega
    have hc'z:((c:Int)+ab)/1000000000=(c':Int):=by omega
    rw [<-hc'] at M2;obtain ⟨r,hr⟩ : ∃r,r=(c+ab)%1000000000:=⟨_,rfl⟩
    have hr9:r<1000000000:=by omega
    have hrz:((c:Int)+ab)%1000000000=(r:Int):=by omega
    have hrz2:(((c+ab:Nat):Int))%1000000000=(r:Int):=by omega
    rw [hrz2] at M2;clear hx hb hab' hc' hr Ho hrz2 Main
    by_cases hneg:(x:Int)-r-bw<0
    ·obtain ⟨d,hd⟩ : ∃d:Nat,(d:Int)=x-r-bw+1000000000:=⟨((x:Int)-r-bw+1000000000).toNat,by omega⟩
     have hd9:d<1000000000:=by omega
     have M3:=hid (M2.out 1 d (by omega) hd9);have hset:=hO.set (at_+k) d;rw [hd] at hset;have Hset:=hid hset;clear hset hd M2
     go_wp2
     obtain ⟨hO2,hG2⟩:=Hset.out;go_roundw
     case rel=>exact ⟨k+1,c',1,_,by omega,by go_num,congrArg (Value.int .u64) hc'z,hc'9,rfl,by omega,by rw [List.length_set];exact hol,λh=>by omega,M3,hO2,Kg hG hG2⟩
     case measure=>simp [intOf]<;>omega
    ·obtain ⟨d,hd⟩ : ∃d:Nat,(d:Int)=x-r-bw:=⟨((x:Int)-r-bw).toNat,by omega⟩
     have hd9:d<1000000000:=by omega
     have M3:=hid (M2.out 0 d (by omega) hd9);have hset:=hO.set (at_+k) d;rw [hd] at hset;have Hset:=hid hset;clear hset hd M2
     go_wp2
     obtain ⟨hO2,hG2⟩:=Hset.out;go_roundw
     case rel=>exact ⟨k+1,c',0,_,by omega,by go_num,congrArg (Value.int .u64) hc'z,hc'9,rfl,by omega,by rw [List.length_set];exact hol,λh=>by omega,M3,hO2,Kg hG hG2⟩
     case measure=>simp [intOf]<;>omega
   ·obtain rfl:k=q.length:=by omega
    have M2:=hid (Main.out c (by omega) ⟨0,by simp,by rw [List.take_length,List.take_of_length_le (by omega)];simp⟩);have hc0:c/1000000000=0:=by omega
    have hcz:(c:Int)%1000000000=c:=by omega
    have hcz2:(c:Int)/1000000000=0:=by omega
    rw [hc0,hcz] at M2;clear hx Ho Main hc0
    by_cases hneg:(x:Int)-c-bw<0
    ·obtain ⟨d,hd⟩ : ∃d:Nat,(d:Int)=x-c-bw+1000000000:=⟨((x:Int)-c-bw+1000000000).toNat,by omega⟩
     have hd9:d<1000000000:=by omega
     have M3:=hid (M2.out 1 d (by omega) hd9);have hset:=hO.set (at_+q.length) d;rw [hd] at hset;have Hset:=hid hset;clear hset hd M2
     go_wp2
     obtain ⟨hO2,hG2⟩:=Hset.out;go_roundw
     case rel=>exact ⟨q.length+1,0,1,_,by omega,by go_num,by first | rfl | exact congrArg (Value.int .u64) hcz2,by omega,rfl,by omega,by rw [List.length_set];exact hol,λh=>rfl,M3,hO2,Kg hG hG2⟩
     case measure=>simp [intOf]<;>omega
    ·obtain ⟨d,hd⟩ : ∃d:Nat,(d:Int)=x-c-bw:=⟨((x:Int)-c-bw).toNat,by omega⟩
     have hd9:d<1000000000:=by omega
     have M3:=hid (M2.out 0 d (by omega) hd9);have hset:=hO.set (at_+q.length) d;rw [hd] at hset;have Hset:=hid hset;clear hset hd M2
     go_wp2
     obtain ⟨hO2,hG2⟩:=Hset.out;go_roundw
     case rel=>exact ⟨q.length+1,0,0,_,by omega,by go_num,by first | rfl | exact congrArg (Value.int .u64) hcz2,by omega,rfl,by omega,by rw [List.length_set];exact hol,λh=>rfl,M3,hO2,Kg hG hG2⟩
     case measure=>simp [intOf]<;>omega
  ·obtain rfl:k=q.length+1:=by omega
   go_wp2
   go_ret;refine ⟨o,bw,KN (by first | rfl | (congr 1;simp)),⟨hol,Ho.out.1.1,Ho.out.1.2,hbw,?_⟩,hO,hG⟩;have:=Ho.out.2;have hc0:c=0:=by first | exact Hc0.out rfl | exact Hc0.out trivial
   rw [hc0,List.take_of_length_le (by omega)] at this;rw [Nat.add_assoc,Int.pow_add];simpa using this
theorem Kel {w:World} {ga:Option Addr} {b1 o1 c1 n:Nat} {p:List Nat} (h1:Sl w ga b1 o1 (us p)) (s1:Kz p) (l1:p.length<=LIM) (hn0:0<n) (hn:n<1000000000) :
  Calls Tryz.prog 172 #[.slice ga p.length c1,.int .u64 n] w λe w' => ∃v,e = .returned v/\Kkq w.heap.size w' v (vP p*n)/\Ext w w':=by
 have H1:=hid h1;have S1:=hid s1;have L1:=hid l1;have hnd:tl [n]=[n]:=by simp [tl];omega
 have Hnd:=hid hnd;clear h1 s1 l1 hnd
 go_enter Tryz.func172,Tryz.ntmps172
 go_wp2_with fail
 have hS:Sl (w.alloc (.cells #[.int .u64 (n:Int)] 191)) (some ⟨w.heap.size,0,none⟩) w.heap.size 0 (us [n]):=by
  refine ⟨λ_=>rfl,λi x hx => ?_⟩
  match i,hx with
  | 0,hx=>simp [us] at hx;subst hx;simp
 have htr:=Xg (p:=[n]) (gc:=1) hS (by simp) (by simp);rw [Hnd.out] at htr;refine htr.mono ?_;rintro e w2 ⟨rfl,hb2⟩;have hE:Ext w w2:=((Ext.refl w).alloc _).trans hb2;have ht:=KfM (c1:=c1) (c2:=1) (H1.out.ext hE) (hS.ext hb2) S1.out (YH.2 ⟨hn,λd hd=>by cases hd⟩) L1.out (by simp [LIM]);have hv:vP [n]=n:=by simp [vP]
 rw [hv] at ht;have Ht:=hid ht;clear htr ht hv hS;go_wp2_with fail;refine Ht.out.mono ?_;rintro e w3 ⟨v,rfl,hR,hb3⟩;go_wp2_with fail;go_ret
 exact ⟨v,rfl,by
  obtain ⟨g,cap,hv,ho⟩:=hR
  exact ⟨g,cap,hv,ho.mono hE.size⟩,hE.trans hb3⟩
end
section
theorem Kp1 {a V i m:Nat}:a/(V*1000000000^i)*(V/1000000000^m)<=a/1000000000^(i+m):=by
 rw [Nat.le_div_iff_mul_le (Nat.pow_pos (by omega)),Nat.pow_add];have h1:=Nat.div_mul_le_self a (V*1000000000^i);have h2:=Nat.div_mul_le_self V (1000000000^m);generalize a/(V*1000000000^i)=q at *;generalize V/1000000000^m=Y at *;generalize 1000000000^i=P at *;generalize 1000000000^m=M at *
 calc q*Y*(P*M)=q*((Y*M)*P):=by rw [Nat.mul_assoc,Nat.mul_comm P M,<-Nat.mul_assoc Y M P]
  _<=q*(V*P):=Nat.mul_le_mul_left _ (Nat.mul_le_mul_right _ h2)
  _<=a:=h1
theorem Kox {a V i m g:Nat} (hg:g*(V/1000000000^m)<=a/1000000000^(i+m)) (hY:g<=V/1000000000^m+1) (hV:0<V):g<=a/(V*1000000000^i)+1:=by
 rcases Nat.eq_zero_or_pos g with rfl | hg0
 ·exact Nat.zero_le _
 obtain ⟨f,rfl⟩ : ∃f,g=f+1:=⟨g-1,by omega⟩
 refine Nat.succ_le_succ ?_;have hP:0<1000000000^i:=Nat.pow_pos (by omega);have hM:0<1000000000^m:=Nat.pow_pos (by omega);rw [Nat.le_div_iff_mul_le (Nat.mul_pos hV hP)];have h1:a/1000000000^(i+m)*1000000000^(i+m)<=a:=Nat.div_mul_le_self _ _
 have h2:V<(V/1000000000^m+1)*1000000000^m:=by
  have:=Nat.lt_div_mul_add hM (a:=V);rw [Nat.add_mul];omega
 rw [Nat.pow_add] at h1 hg;generalize a/(1000000000^i*1000000000^m)=X at *;generalize V/1000000000^m=Y at *;generalize 1000000000^i=P at *;generalize 1000000000^m=M at *;have h3:f*(Y+1)<=(f+1)*Y:=by rw [Nat.mul_add,Nat.add_mul];omega
 calc f*(V*P)<=f*(((Y+1)*M)*P):=Nat.mul_le_mul_left _ (Nat.mul_le_mul_right _ (Nat.le_of_lt h2))
  _=f*(Y+1)*(P*M):=by rw [Nat.mul_assoc (Y+1) M P,Nat.mul_comm M P,<-Nat.mul_assoc]
  _<=X*(P*M):=Nat.mul_le_mul_right _ (Nat.le_trans h3 hg)
  _<=a:=h1
theorem Kjh {l:List Nat} (h:Kz l) {j:Nat} (hj:j<l.length):l[j]=vP l/1000000000^j%1000000000:=by
 induction l generalizing j with
 | nil=>cases hj
 | cons d r ih =>
  obtain ⟨hd,hr⟩:=YH.1 h
  cases j with
  | zero=>simp only [List.getElem_cons_zero,vP,Nat.pow_zero,Nat.div_one];omega
  | succ j =>
   simp only [List.getElem_cons_succ,vP];rw [ih hr (by simpa using hj),Nat.pow_succ,Nat.mul_comm (1000000000^j),<-Nat.div_div_eq_div_mul]
   congr 2;omega
theorem Kkl {l:List Nat} (h:Kz l) {k:Nat} (hk:k<=l.length):vP (l.drop k)=vP l/1000000000^k:=by
 rw [KnR l k hk,Nat.add_comm,Nat.mul_add_div (Nat.pow_pos (by omega)),Nat.div_eq_of_lt (Kji h k)];omega
theorem Kid {l l':List Nat} {k:Nat} (h:Kz l) (h':Kz l') (hk:k<=l.length) (hl:l'.length=l.length) (hd:l'.drop k=l.drop k) (hv:vP l<1000000000^k):vP l'<1000000000^k:=by
 have e1:=Kkl h hk;have e2:=Kkl h' (k:=k) (by omega);rw [hd,e1,Nat.div_eq_of_lt hv] at e2
 rcases Nat.div_eq_zero_iff.1 e2.symm with h0 | h0
 ·have:0<1000000000^k:=Nat.pow_pos (by omega);omega
 ·exact h0
theorem Krr {a j:Nat} (h:a<1000000000^(j+3)):(a/1000000000^(j+2)%1000000000*1000000000+a/1000000000^(j+1)%1000000000)*1000000000+a/1000000000^j%1000000000=a/1000000000^j:=by
 have e1:=JQ a j;have e2:=JQ a (j+1);rw [show j+1+1=j+2 from rfl] at e2
 have h3:a/1000000000^(j+2)<1000000000:=by
  refine Nat.div_lt_of_lt_mul ?_;rw [<-Nat.pow_succ];exact h
 rw [Nat.mod_eq_of_lt h3];omega
theorem Krq {a j:Nat} (h:a<1000000000^(j+2)):a/1000000000^(j+1)%1000000000*1000000000+a/1000000000^j%1000000000=a/1000000000^j:=by
 have e1:=JQ a j
 have h3:a/1000000000^(j+1)<1000000000:=by
  refine Nat.div_lt_of_lt_mul ?_;rw [<-Nat.pow_succ];exact h
 rw [Nat.mod_eq_of_lt h3];omega
theorem Koz {a V P M g q p' bw:Nat} (hq:q=a/(V*P)) (hVP:0<V*P) (h1:q<=g) (h2:g<=q+1) (hbw:bw<=1) (hM:p'<M) (_hVM:V*P<=M) (h:(p':Int)-bw*M=a-g*V*P) :
  (bw=0↔g=q)/\(bw=0->p'+q*(V*P)=a)/\(bw=1->g=q+1/\(p':Int)=M+a-(q+1)*(V*P)):=by
 have hdm:=Nat.div_add_mod a (V*P);have hlt:=Nat.mod_lt a hVP;rw [<-hq] at hdm;generalize a%(V*P)=r at *;have hz:(g:Int)*V*P=g*(V*P:Nat):=by rw [Int.mul_assoc];rfl
 rw [hz] at h;have hz2:((q:Int)+1)*((V:Int)*P)=(q+1)*(V*P:Nat):=rfl;rw [hz2];generalize V*P=T at *;have hdm':(T:Int)*q+r=a:=by exact_mod_cast hdm
 rcases (show g=q\/g=q+1 by omega) with rfl | rfl
 ·have e:(p':Int)-bw*M=r:=by rw [h,<-hdm',Int.mul_comm];omega
  have hb:bw=0:=by
   rcases (show bw=0\/bw=1 by omega) with h0 | h0
   ·exact h0
   ·subst h0;simp at e;omega
  subst hb;refine ⟨by simp,λ_ => ?_,λh0=>by omega⟩;simp at e;rw [Nat.mul_comm];omega
 ·have e:(p':Int)-bw*M=r-T:=by
   rw [h,<-hdm'];push_cast;rw [Int.add_mul,Int.mul_comm (q:Int)];omega
  have hb:bw=1:=by
   rcases (show bw=0\/bw=1 by omega) with h0 | h0
   ·subst h0;simp at e;omega
   ·exact h0
  subst hb;refine ⟨by omega,λh0=>by omega,λ_=>⟨rfl,?_⟩⟩;rw [<-hdm',Int.add_mul,Int.mul_comm (q:Int)];simp at e ⊢;omega
theorem Kov {a V P M q p' p'' c:Nat} (hq:q=a/(V*P)) (hVP:0<V*P) (hVM:V*P<=M) (hM:p''<M) (h1:(p':Int)=M+a-(q+1)*(V*P)) (h:(p'':Int)+c*M=p'+V*P):p''+q*(V*P)=a:=by
 have hdm:=Nat.div_add_mod a (V*P);have hlt:=Nat.mod_lt a hVP;rw [<-hq] at hdm;generalize a%(V*P)=r at *;have hz:(V:Int)*P=(V*P:Nat):=rfl;rw [hz] at h1 h;generalize V*P=T at *;have hdm':(T:Int)*q+r=a:=by exact_mod_cast hdm
 rw [h1,<-hdm',Int.add_mul,Int.mul_comm (q:Int)] at h;have h2:(p'':Int)+c*M=M+r:=by omega
 have hc:c=1:=by
  rcases Nat.lt_trichotomy c 1 with h0 | h0 | h0
  ·obtain rfl:c=0:=by omega
   simp at h2;omega
  ·exact h0
  ·exfalso;have:(2:Int)*M<=c*M:=Int.mul_le_mul_of_nonneg_right (by omega) (by omega);omega
 subst hc;simp at h2;rw [Nat.mul_comm];omega
end
end Go.Proofs.YtdmaofimeknkbaaGreatDoor
