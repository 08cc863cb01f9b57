/- Part 4 of the proof of the claim: contracts of the functions that it reaches, and plain laws; no condition. -/
import Derived.Test.YtdmaofimeknkbaaGreatDoorQ03
set_option maxRecDepth 100000
set_option maxHeartbeats 20000000
namespace Go.Proofs.YtdmaofimeknkbaaGreatDoor
section
open Go.RowKit
open Lib (hid)
theorem J5 : ∀(i u:Nat) (h:i<(pc u).length),(pc u)[i]=u/1000000000^i%1000000000:=by
 intro i
 induction i with
 | zero =>
  intro u h
  by_cases h0:u=0
  ·subst h0;rw [Qz] at h;cases h
  ·simp [Jo h0]
 | succ i ih =>
  intro u h
  by_cases h0:u=0
  ·subst h0;rw [Qz] at h;cases h
  ·have e:=Jo h0
   have hl:i<(pc (u/1000000000)).length:=by
    have:=congrArg List.length e;rw [List.length_cons] at this;omega
   have:=ih (u/1000000000) hl;simp only [e,List.getElem_cons_succ];rw [this,Nat.div_div_eq_div_mul,Nat.pow_succ,Nat.mul_comm 1000000000]
theorem YD (u:Nat):u<1000000000^(pc u).length:=by
 have:=KfO (KL u);rwa [ZO] at this
theorem KnM (i:Nat):(1000000000:Nat)^i=10^(9*i):=by rw [Nat.pow_mul]
theorem Kiu {u i k:Nat} (h:i<(pc u).length) (hk:k<9):YS (9*i+k+1) u=YS (9*i+k) u++[UInt8.ofNat (48+(pc u)[i]/10^k%10)]:=by
 rw [KkH,J5 i u h,KnM,Nat.pow_add,<-Nat.div_div_eq_div_mul]
 congr 3
 have e:(1000000000:Nat)=10^k*(10^(9-k)):=by rw [<-Nat.pow_add,show k+(9-k)=9 by omega]
 have h10:(10:Nat)^(9-k)=10*10^(8-k):=by rw [show 9-k=(8-k)+1 by omega,Nat.pow_succ,Nat.mul_comm]
 rw [e,Nat.mod_mul_right_div_self,h10,Nat.mod_mul_right_mod]
theorem KkX {u i k:Nat} (h:i+1=(pc u).length) (hp:(pc u)[i]'(by omega)/10^k=0) (hu:u≠0):Lib.nDigits u<=9*i+k:=by
 rw [J5] at hp;have hlt:=YD u;rw [<-h,Nat.pow_succ] at hlt;have hP:0<1000000000^i:=Nat.pow_pos (by omega);rw [Nat.mod_eq_of_lt (Nat.div_lt_of_lt_mul hlt),KnM,Nat.div_div_eq_div_mul,<-Nat.pow_add] at hp
 have h2:u<10^(9*i+k):=by
  rcases (Nat.div_eq_zero_iff).1 hp with h | h
  ·exact absurd h (by have:0<10^(9*i+k):=Nat.pow_pos (by omega);omega)
  ·exact h
 refine KP h2 ?_
 rcases Nat.eq_zero_or_pos (9*i+k) with h0 | h0
 ·rw [h0] at h2;simp at h2;exact absurd h2 hu
 ·exact h0
theorem Khp {u i k:Nat} (h:i<(pc u).length) (hp:0<(pc u)[i]/10^k):9*i+k+1<=Lib.nDigits u:=by
 rw [J5] at hp;refine Nat.lt_of_not_le λhc => ?_
 have h1:=KE hc;rw [Nat.pow_add,<-KnM] at h1;have h2:u/1000000000^i<10^k:=Nat.div_lt_of_lt_mul h1;have h3:u/1000000000^i%1000000000<10^k:=Nat.lt_of_le_of_lt (Nat.mod_le _ _) h2;rw [Nat.div_eq_of_lt h3] at hp;omega
theorem Km6 (u:Nat):Lib.nDigits u<=9*(pc u).length\/u=0:=by
 by_cases hu:u=0
 ·exact .inr hu
 ·left
  have:=YD u;rw [KnM] at this;refine KP this ?_;have:(pc u)≠[]:=λh=>hu (Kd4.1 h)
  have:=List.length_pos_iff.2 this;omega
theorem Kn8 (l:List UInt8) (c:UInt8):bs l++[.int .u8 (c.toNat:Nat)]=bs (l++[c]):=by simp [bs]
theorem KpI:bs []=[]:=rfl
theorem KnN {w:World} {ga:Option Addr} {gb go gc u:Nat} (h:Sl w ga gb go (us (pc u))) (hl:(pc u).length<=LIM) :
  Calls Tryz.prog 143 #[.slice ga (pc u).length gc] w λe w'=>e = .returned (D u)/\Ext w w':=by
 by_cases hu:u=0
 ·subst hu;unfold D;rw [YR,Qz]
  clear h hl
  go_enter Tryz.func143,Tryz.ntmps143
  go_wp2
  go_ret;exact ⟨rfl,Ext.refl _⟩
 ·have hlen:0<(pc u).length:=List.length_pos_iff.2 (λh=>hu (Kd4.1 h));obtain rfl:=h.addr (by simpa using hlen);have hl':(pc u).length<=1000000000000:=hl;have hnd:Lib.nDigits u<=9*(pc u).length:=(Km6 u).resolve_right hu;obtain ⟨i0,hi,hz0,hz1,hz2⟩:=info_parts Tryz.infoU8;have H:=hid h;have Hu:=hid hu;have hl0:(((pc u).length:Int)==0)=false:=beq_eq_false_iff_ne.2 (by omega);clear h hl hu;generalize hL:(pc u).length=L at *;have HL:=hid hL;clear hL
  go_enter Tryz.func143,Tryz.ntmps143
  go_wp2_with (at_make;refine wpList_make_own _ rfl _ _ 216 rfl w.heap.size 5 i0 (.int .u8 0) 1 Tryz.underlying216 hi hz0 hz1 .i64 .i64 _ (9*L) rfl rfl (by omega) (by rw [hz2];omega) (by unfold maxLen;omega) (Nat.le_refl _) ?_;intro w1 hown1 hgrow1)
  have he1:=KR hgrow1;clear hgrow1;generalize hg:w.heap.size=g at *;have Hg:=hid hg;clear hg;obtain ⟨cap,hcap⟩ : ∃cap,cap=9*L:=⟨_,rfl⟩
  have Hcap:=hid hcap;rw [<-hcap] at hown1 ⊢;clear hcap
  go_loopw [3,16] (λout idx wr => ∃(i m:Nat),i<=L/\idx = .int .i64 i/\out=slv g m cap/\Hid ((i<L->m=9*i)/\(i=L->m=Lib.nDigits u))/\Kd 5 g wr g cap (bs (YS m u))/\Ext w wr) (λ_ idx _=>L-(intOf idx).toNat)
  case atStart=>exact ⟨0,0,by omega,rfl,rfl,⟨λ_=>rfl,λh=>by omega⟩,by rw [show YS 0 u=[] from rfl,KpI];exact hown1,he1⟩
  case round =>
   obtain ⟨i,m,hiL,rfl,rfl,Hm,hO,hE⟩:=hrel;clear hown1 he1
   by_cases hlt:i<L
   ·have hip:i<(pc u).length:=by rw [HL.out];exact hlt
    obtain ⟨P,hP⟩ : ∃P,P=(pc u)[i]:=⟨_,rfl⟩
    have hPlt:P<1000000000:=by rw [hP];exact KL u _ (List.getElem_mem hip)
    have hcell:wr.cell? ⟨gb,go+i,none⟩=some (.int .u64 (P:Nat)):=by
     rw [hP];exact hE.cell (H.out.cell i _ (ZY hip))
    have HP:=hid hP;clear hP;obtain rfl:m=9*i:=Hm.out.1 hlt
    go_wp2
    clear hcell;have hE0:=hE
    go_loopw [3,5,6] (λout n kk wi => ∃(k q:Nat),k<=9/\kk = .int .i64 k/\n = .int .u64 q/\q<1000000000/\out=slv g (9*i+k) cap/\Hid (q=P/10^k)/\Hid (i+1=L->9*i+k<=Lib.nDigits u)/\Kd 5 g wi g cap (bs (YS (9*i+k) u))/\Ext w wi) (λ_ _ kk _=>9-(intOf kk).toNat)
    case atStart =>
     refine ⟨0,P,by omega,rfl,rfl,hPlt,rfl,by unfold Hid;simp,λh => ?_,hO,hE⟩;have hne:=(Khp (u:=u) (i:=i) (k:=0) hip)
     by_cases hp0:(pc u)[i]/10^0=0
     ·have:=XW (u:=u) Hu.out;rw [HL.out,<-h,show i+1-1=i from rfl,KnM] at this;rw [Nat.add_zero];refine Nat.le_of_lt (Nat.lt_of_not_le λhc => ?_);have:=KE hc;omega
     ·have:=hne (Nat.pos_of_ne_zero hp0);omega
    case round =>
     obtain ⟨k,q,hk9,rfl,rfl,hq9,rfl,Hq,Hk,hOi,hEi⟩:=hrel;clear hO hE hE0
     have step : ∀(_:k<9) (_:i+1=L->0<q),YS (9*i+k+1) u=YS (9*i+k) u++[UInt8.ofNat (48+q%10)]/\(i+1=L->9*i+(k+1)<=Lib.nDigits u):=by
      intro hk hq;refine ⟨by rw [Kiu hip hk,<-HP.out,<-Hq.out],λh => ?_⟩;exact Khp hip (by rw [<-HP.out,<-Hq.out];exact hq h)
     have hlenO:(bs (YS (9*i+k) u)).length=9*i+k:=by rw [Kkx,JP]
     have hOw:=hOi.row hlenO;clear hlenO;have Z9:=hid step;clear step
     by_cases hk:k<9
     ·have hcap1:9*i+k+1<=cap:=by have:=Hcap.out;omega
      have hkz:(k:Int)<9:=by omega
      by_cases hmore:i+1<L\/0<q
      ·have hst:=Z9.out hk (λh=>by omega);obtain ⟨r,hr⟩ : ∃r,r=q%10:=⟨_,rfl⟩
       have hr10:r<10:=by omega
       have hrz:(q:Int)%10=(r:Int):=by omega
       rw [<-hr] at hst;have hq10:q/10<1000000000:=by omega
       obtain ⟨q',hq'⟩ : ∃q',q'=q/10:=⟨_,rfl⟩
       have hqz:(q:Int)/10=(q':Int):=by omega
       have hu8:=Qu hr10;have Hst:=hid hst;have Hu8:=hid hu8;have Hq':=hid hq';clear hst hu8 hr hq' hq10
       have fin : ∀w2,w2.ownsRow g 5 1 (slv g (9*i+k+1) cap) (9*i+k+1) (bs (YS (9*i+k) u)++[.int .u8 (48+(r:Int))])->(∃o,(wr.alloc o).grownBy w2 (some g))->Kd 5 g w2 g cap (bs (YS (9*i+(k+1)) u))/\Ext w w2:=by
        intro w2 h1 h2;refine ⟨?_,?_⟩
        ·have:(Value.int .u8 (48+(r:Int))) = .int .u8 ((UInt8.ofNat (48+r)).toNat:Nat):=by rw [Hu8.out];congr 1
         rw [this,Kn8,<-Hst.out.1] at h1;exact Kd.of_row h1
        ·obtain ⟨o,h2⟩:=h2;exact Kb (hEi.alloc o) h2 (by have:=Hg.out;omega)
       have Fin:=hid fin;clear fin;have hpre:(i:Int)+1<(L:Int)\/(¬(i:Int)+1<(L:Int)/\(0:Int)<(q:Int)):=by omega
       clear hmore
       rcases hpre with hp | ⟨hp,hq0⟩
       all_goals
        go_wp2_with (at_builtin;refine wpList_append_fits _ rfl _ _ 216 rfl g 5 i0 1 Tryz.underlying216 hi hz1 g (9*i+k) cap _ rfl (World.ownsRow.alloc hOw _) ⟨wr.heap.size,0,none⟩ 1 1 [.int .u8 (48+(r:Int))] rfl rfl (cell_one_new _ _ _) (YC _ _) hcap1 ?_;intro w2 hown2 hgrow2)
        obtain ⟨hO2,hE2⟩:=Fin.out w2 hown2 ⟨_,hgrow2⟩;clear hown2 hgrow2 hOw;go_roundw
        case rel=>exact ⟨k+1,q',by omega,by go_num,rfl,by have:=Hq'.out;omega,rfl,by unfold Hid;rw [Hq'.out,Hq.out,Nat.div_div_eq_div_mul,Nat.pow_succ],Hst.out.2,hO2,hE2⟩
        case measure=>simp [intOf];omega
      ·obtain rfl:q=0:=by omega
       have hlast:i+1=L:=by omega
       have hle:=KkX (u:=u) (i:=i) (k:=k) (by rw [HL.out];exact hlast) (by rw [<-HP.out,<-Hq.out]) Hu.out;have hnk:=Hk.out hlast;have hfin:9*i+k=Lib.nDigits u:=by omega
       have Hfin:=hid hfin;have hp1 : ¬(i:Int)+1<(L:Int):=by omega
       clear hle hnk hfin hmore hOw
       go_wp2
       go_roundw
       case rel=>exact ⟨i+1,9*i+k,by omega,by go_num,rfl,⟨λh=>by omega,λ_=>Hfin.out⟩,hOi,hEi⟩
       case measure=>simp [intOf];omega
     ·obtain rfl:k=9:=by omega
      clear hOw
      go_wp2
      go_roundw
      case rel=>exact ⟨i+1,9*i+9,by omega,by go_num,rfl,⟨λh=>by omega,λh=>by have:=Hk.out h;omega⟩,hOi,hEi⟩
      case measure=>simp [intOf];omega
   ·obtain rfl:i=L:=by omega
    obtain rfl:m=Lib.nDigits u:=Hm.out.2 rfl;have hrev:=KeR hO (by rw [JP];omega);rw [JP,<-Kg0,List.reverse_reverse] at hrev;have Hrev:=hid hrev
    have hconv : ∀W,Kd 5 g W g cap (bs (Lib.decDigits u))->(convert 216 45 (slv g (Lib.nDigits u) cap)).run Tryz.prog W = .ok (D u) W:=by
     intro W hW
     have h:=run_convert_bytes_back (P:=Tryz.prog) W 216 45 5 ⟨g,0,none⟩ cap (Lib.decDigits u) Tryz.underlying216 Tryz.underlying5 Tryz.underlying45 (λj hj=>by
      rw [Lib.add_plain,Nat.zero_add,hW.cell (by simpa using hj)];simp [bs])
     rw [Lib.decDigits_length] at h;exact h
    have Hconv:=hid hconv;clear hrev hconv;go_wp2_with fail;refine Hrev.out.mono ?_;rintro e w2 ⟨rfl,hO2,hG2⟩;have hc2:=Hconv.out w2 hO2;have hE2:Ext w w2:=Kb hE hG2 (by have:=Hg.out;omega);clear hO hO2 hG2 hE
    go_wp2
    go_ret;exact ⟨rfl,hE2⟩
end
section
theorem Kcq (l:List Nat) (j d:Nat) (h:j<l.length):(vP (l.set j d):Int)=vP l+((d:Int)-(l[j]:Nat))*1000000000^j:=by
 induction l generalizing j with
 | nil=>cases h
 | cons x r ih =>
  cases j with
  | zero=>simp only [List.set_cons_zero,vP,List.getElem_cons_zero,Int.pow_zero,Int.mul_one,Int.natCast_add];omega
  | succ j =>
   have h':j<r.length:=by simpa using h
   simp only [List.set_cons_succ,vP,List.getElem_cons_succ,Int.natCast_add,Int.natCast_mul,ih j h',Int.pow_succ];have:((1000000000:Nat):Int)=1000000000:=rfl;rw [this]
   grind
theorem ZX {l:List Nat} (h:Kz l) (j:Nat) {d:Nat} (hd:d<1000000000):Kz (l.set j d):=by
 intro x hx
 rcases List.mem_or_eq_of_mem_set hx with hx | rfl
 ·exact h x hx
 ·exact hd
theorem XY (q:List Nat) (k:Nat) (h:k<q.length):(vP (q.take (k+1)):Int)=vP (q.take k)+(q[k]:Nat)*1000000000^k:=by
 rw [List.take_succ_eq_append_getElem h,ZH];have hl:(q.take k).length=k:=by rw [List.length_take];omega
 simp only [vP,hl,Nat.mul_zero,Nat.add_zero,Int.natCast_add,Int.natCast_mul,Int.natCast_pow];have:((1000000000:Nat):Int)=1000000000:=rfl;rw [this,Int.mul_comm]
theorem K9 {l:List Nat} (h:Kz l) {j:Nat} (hj:j<l.length):l[j]<1000000000:=h _ (List.getElem_mem hj)
theorem KnR (l:List Nat) (k:Nat) (hk:k<=l.length):vP l=vP (l.take k)+1000000000^k*vP (l.drop k):=by
 have h:=ZH (l.take k) (l.drop k);rw [List.take_append_drop] at h;rw [h,List.length_take,Nat.min_eq_left hk]
theorem Kji {l:List Nat} (h:Kz l) (k:Nat):vP (l.take k)<1000000000^k:=by
 have h1:=KfO (l:=l.take k) (λd hd=>h d (List.mem_of_mem_take hd));exact Nat.lt_of_lt_of_le h1 (Nat.pow_le_pow_right (by omega) (by rw [List.length_take];omega))
theorem Kjd {o c a b v q w K M:Int} (h:v+c*(M*K)=w+a*q*M) :
  (v+((c+(o+a*b))%1000000000-o)*(M*K))+((c+(o+a*b))/1000000000)*(M*(K*1000000000))=w+a*(q+b*K)*M:=by
 have h1:=Int.mul_ediv_add_emod (c+(o+a*b)) 1000000000
 grind
theorem Ke7 {o c b v q w K M:Int} (h:v+c*(M*K)=w+q*M) :
  (v+((c+o+b)%1000000000-o)*(M*K))+((c+o+b)/1000000000)*(M*(K*1000000000))=w+(q+b*K)*M:=by
 have h1:=Int.mul_ediv_add_emod (c+o+b) 1000000000
 grind
theorem KlA {o c n b bw bw' d' v q w K M:Int} (h:v-(c+bw)*(M*K)=w-n*q*M) (hd:d'=o-(c+n*b)%1000000000-bw+bw'*1000000000) :
  (v+(d'-o)*(M*K))-((c+n*b)/1000000000+bw')*(M*(K*1000000000))=w-n*(q+b*K)*M:=by
 have h1:=Int.mul_ediv_add_emod (c+n*b) 1000000000;subst hd
 grind
theorem Kd0 {a b:Nat} (ha:a<1000000000) (hb:b<1000000000):a*b<=999999998000000001:=by
 have:=Nat.mul_le_mul (show a<=999999999 by omega) (show b<=999999999 by omega);exact this
theorem Kb8 {u v:Nat} (h:(pc u).length<(pc v).length):u<v:=by
 have h1:=KfO (KL u);rw [ZO] at h1
 have hv:v≠0:=λe=>by subst e;rw [Qz] at h;cases h
 have h2:=XW hv;exact Nat.lt_of_lt_of_le h1 (Nat.le_trans (Nat.pow_le_pow_right (by omega) (by omega)) h2)
theorem JQ (u k:Nat):u/1000000000^k=1000000000*(u/1000000000^(k+1))+u/1000000000^k%1000000000:=by
 rw [Nat.pow_succ,<-Nat.div_div_eq_div_mul];omega
theorem Kfn {u v P:Nat} (h:u/P<v/P):u<v:=by
 refine Nat.lt_of_not_le λhc => ?_
 have:=Nat.div_le_div_right (c:=P) hc;omega
end
section
open Go.RowKit
open Lib (hid)
def Zr (u v:Nat):Int:=if u<v then -1 else if v<u then 1 else 0
theorem KgX {w:World} {ga gb:Option Addr} {b1 o1 c1 b2 o2 c2 u v:Nat} (h1:Sl w ga b1 o1 (us (pc u))) (h2:Sl w gb b2 o2 (us (pc v))) (l1:(pc u).length<=LIM) (l2:(pc v).length<=LIM) :
  Calls Tryz.prog 146 #[.slice ga (pc u).length c1,.slice gb (pc v).length c2] w λe w'=>e = .returned (.int .i64 (Zr u v))/\Ext w w':=by
 have m1:(pc u).length<=1000000000000:=l1;have m2:(pc v).length<=1000000000000:=l2
 rcases Nat.lt_trichotomy (pc u).length (pc v).length with hl | hl | hl
 ·have hlt:=Kb8 hl;have hr:Zr u v = -1:=by unfold Zr;rw [if_pos hlt]
  rw [hr];clear h1 h2 l1 l2 hr hlt;generalize (pc u).length=a at *;generalize (pc v).length=b at *;have t1:((a:Int) != (b:Int))=true:=by rw [bne_iff_ne];omega
  have t2:min (1:Int) (max (-1) ((a:Int)-b)) = -1:=by omega
  have T2:=hid t2;clear t2
  go_enter Tryz.func146,Tryz.ntmps146
  go_wp2
  go_ret;exact ⟨KN (congrArg (Value.int .i64) T2.out),Ext.refl _⟩
 ·have H1:=hid h1;have H2:=hid h2;have HL:=hid hl;rw [<-hl];clear h1 h2 l1 l2 hl m2;generalize hLu:(pc u).length=L at *;have HLu:=hid hLu;clear hLu
  go_enter Tryz.func146,Tryz.ntmps146
  go_wp2
  go_loopw [5] (λi wr => ∃k:Nat,k<=L/\i = .int .i64 ((k:Int)-1)/\Hid (u/1000000000^k=v/1000000000^k)/\Ext w wr) (λi _=>(intOf i+1).toNat)
  case atStart =>
   refine ⟨L,Nat.le_refl _,by go_num,?_,Ext.refl _⟩;have e1:=KfO (KL u);rw [ZO,HLu.out] at e1
   have e2:=KfO (KL v);rw [ZO,<-HL.out] at e2
   unfold Hid;rw [Nat.div_eq_of_lt e1,Nat.div_eq_of_lt e2]
  case round =>
   obtain ⟨k,hk,rfl,He,hE⟩:=hrel
   rcases Nat.eq_zero_or_pos k with rfl | hk0
   ·go_wp2
    go_ret;have:=He.out;simp at this;subst this;exact ⟨KN (by unfold Zr;rw [if_neg (by omega),if_neg (by omega)];rfl),hE⟩
   ·obtain ⟨i,rfl⟩ : ∃i,k=i+1:=⟨k-1,by omega⟩
    have hkz:((i+1:Nat):Int)-1=(i:Int):=by omega
    rw [hkz];have hi1:i<(pc u).length:=by rw [HLu.out];omega
    have hi2:i<(pc v).length:=by rw [<-HL.out];omega
    have hiL:i<L:=by omega
    obtain rfl:=H1.out.addr (by rw [Qa];omega);obtain rfl:=H2.out.addr (by rw [Qa];omega);obtain ⟨P,hP⟩ : ∃P,P=(pc u)[i]:=⟨_,rfl⟩
    obtain ⟨Q,hQ⟩ : ∃Q,Q=(pc v)[i]:=⟨_,rfl⟩
    have d1:wr.cell? ⟨b1,o1+i,none⟩=some (.int .u64 (P:Nat)):=by rw [hP];exact hE.cell (H1.out.cell i _ (ZY hi1))
    have d2:wr.cell? ⟨b2,o2+i,none⟩=some (.int .u64 (Q:Nat)):=by rw [hQ];exact hE.cell (H2.out.cell i _ (ZY hi2))
    have s1:=JQ u i;have s2:=JQ v i;rw [<-J5 i u hi1,<-hP] at s1;rw [<-J5 i v hi2,<-hQ] at s2;have e0:=He.out
    have hfin:(P<Q->u<v)/\(Q<P->v<u)/\(P=Q->u/1000000000^i=v/1000000000^i) :=
     ⟨λh=>Kfn (P:=1000000000^i) (by omega),λh=>Kfn (P:=1000000000^i) (by omega),λh=>by omega⟩
    have Hfin:=hid hfin;clear hkz hk0 hP hQ s1 s2 e0 hfin hi1 hi2 He
    rcases Nat.lt_trichotomy P Q with hlt | heq | hgt
    ·have t1:(P:Int)<(Q:Int):=by omega
     go_wp2
     go_quiet (fail)
     go_wp2
     go_ret;exact ⟨KN (by unfold Zr;rw [if_pos (Hfin.out.1 hlt)];rfl),hE.drewN _⟩
    ·subst heq;have H3:=hid (Hfin.out.2.2 rfl);clear Hfin
     go_wp2
     go_quiet (fail)
     go_wp2
     go_quiet (fail)
     go_wp2
     go_roundw
     case rel=>exact ⟨i,by omega,by go_num,H3,hE.drewN _⟩
     case measure=>simp [intOf]<;>omega
    ·have t1:(Q:Int)<(P:Int):=by omega
     have t2 : ¬(P:Int)<(Q:Int):=by omega
     go_wp2
     go_quiet (fail)
     go_wp2
     go_quiet (fail)
     go_wp2
     go_ret;exact ⟨KN (by unfold Zr;rw [if_neg (by have:=Hfin.out.2.1 hgt;omega),if_pos (Hfin.out.2.1 hgt)];rfl),(hE.drewN _).drewN _⟩
 ·have hlt:=Kb8 hl;have hr:Zr u v=1:=by unfold Zr;rw [if_neg (by omega),if_pos hlt]
  rw [hr];clear h1 h2 l1 l2 hr hlt;generalize (pc u).length=a at *;generalize (pc v).length=b at *;have t1:((a:Int) != (b:Int))=true:=by rw [bne_iff_ne];omega
  have t2:min (1:Int) (max (-1) ((a:Int)-b))=1:=by omega
  have T2:=hid t2;clear t2
  go_enter Tryz.func146,Tryz.ntmps146
  go_wp2
  go_ret;exact ⟨KN (congrArg (Value.int .i64) T2.out),Ext.refl _⟩
theorem KfM {w:World} {ga gb:Option Addr} {b1 o1 c1 b2 o2 c2:Nat} {p q:List Nat} (h1:Sl w ga b1 o1 (us p)) (h2:Sl w gb b2 o2 (us q)) (s1:Kz p) (s2:Kz q) (l1:p.length<=LIM) (l2:q.length<=LIM) :
  Calls Tryz.prog 142 #[.slice ga p.length c1,.slice gb q.length c2] w λe w' => ∃v,e = .returned v/\Kkq w.heap.size w' v (vP p*vP q)/\Ext w w':=by
 have m1:p.length<=1000000000000:=l1;have m2:q.length<=1000000000000:=l2;obtain ⟨i0,hi,hz0,hz1,hz2⟩:=info_parts Tryz.infoU64;have H1:=hid h1;have H2:=hid h2;have S1:=hid s1;have S2:=hid s2;clear h1 h2 l1 l2 s1 s2
 go_enter Tryz.func142,Tryz.ntmps142
 go_wp2_with (at_make;refine wpList_make_full _ rfl _ _ 200 rfl w.heap.size 191 i0 (.int .u64 0) 1 Tryz.underlying200 hi hz0 hz1 .i64 .i64 _ _ (p.length+q.length) rfl rfl (by omega) (by omega) (by rw [hz2];omega) (by unfold maxLen;omega) (Nat.le_refl _) ?_;intro w1 hown1 hgrow1)
 have he1:=KR hgrow1;clear hgrow1;generalize hg:w.heap.size=g at *;have Hg:=hid hg;clear hg
 have hO1:KG g w1 g (p.length+q.length) (List.replicate (p.length+q.length) 0):=by
  unfold KG
  have e:(madeCells (Value.int .u64 0).cells ((p.length+q.length)*1)).toList=us (List.replicate (p.length+q.length) 0):=by
   rw [show (Value.int .u64 0).cells = #[.int .u64 0] from rfl,toList_madeCells_one,Nat.mul_one];simp [us]
  rw [e] at hown1;simpa using hown1
 clear hown1;obtain ⟨n,hn⟩ : ∃n,n=p.length+q.length:=⟨_,rfl⟩
 have Hn:=hid hn;rw [<-hn] at hO1 ⊢;have hnl:n<=2000000000000:=by omega
 clear hn
 go_loopw [19] (λidx wr => ∃(i:Nat) (o:List Nat),i<=p.length/\idx = .int .i64 i/\o.length=n/\Hid (Kz o/\(vP o:Int)=vP (p.take i)*vP q /\ ∀j,i+q.length<=j -> ∀h:j<o.length,o[j]=0)/\KG g wr g n o/\Ext w wr) (λidx _=>p.length-(intOf idx).toNat)
 case atStart =>
  refine ⟨0,List.replicate n 0,by omega,rfl,by simp,⟨?_,?_,?_⟩,hO1,he1⟩
  ·intro d hd;rw [List.mem_replicate] at hd;omega
  ·rw [Jy];simp [vP]
  ·intro j _ h;simp
 case round =>
  obtain ⟨i,o,hip,rfl,hol,Ho,hO,hE⟩:=hrel;clear hO1 he1
  by_cases hlt:i<p.length
  ·obtain rfl:=H1.out.addr (by rw [Qa];omega);obtain ⟨a,ha⟩ : ∃a,a=p[i]:=⟨_,rfl⟩
   have ha9:a<1000000000:=by rw [ha];exact K9 S1.out hlt
   have hcell:wr.cell? ⟨b1,o1+i,none⟩=some (.int .u64 (a:Nat)):=by
    rw [ha];exact hE.cell (H1.out.cell i _ (ZY hlt))
   have Ha:=hid ha;clear ha
   go_wp2
   clear hcell
   go_loopw [8,26] (λcy idx wr => ∃(k c:Nat) (o':List Nat),k<=q.length/\idx = .int .i64 k/\cy = .int .u64 c/\c<1000000000/\o'.length=n/\Hid (Kz o'/\(vP o':Int)+c*(1000000000^i*1000000000^k)=vP o+a*vP (q.take k)*1000000000^i /\ ∀j,i+q.length<=j -> ∀h:j<o'.length,o'[j]=0)/\KG g wr g n o'/\Ext w wr) (λ_ idx _=>q.length-(intOf idx).toNat)
   case atStart =>
    exact ⟨0,0,o,by omega,rfl,rfl,by omega,hol,⟨Ho.out.1,by simp [vP],Ho.out.2.2⟩,hO,hE⟩
   case round =>
    obtain ⟨k,c,o',hkq,rfl,rfl,hc9,hol',Ho',hO',hE'⟩:=hrel;clear hO hE
    by_cases hlk:k<q.length
    ·obtain rfl:=H2.out.addr (by rw [Qa];omega);obtain ⟨b,hb⟩ : ∃b,b=q[k]:=⟨_,rfl⟩
     have hb9:b<1000000000:=by rw [hb];exact K9 S2.out hlk
     have hcell:wr.cell? ⟨b2,o2+k,none⟩=some (.int .u64 (b:Nat)):=by
      rw [hb];exact hE'.cell (H2.out.cell k _ (ZY hlk))
     have hik:i+k<o'.length:=by rw [hol'];have:=Hn.out;omega
     obtain ⟨x,hx⟩ : ∃x,x=o'[i+k]:=⟨_,rfl⟩
     have hx9:x<1000000000:=by rw [hx];exact K9 Ho'.out.1 hik
     have hcell2:wr.cell? ⟨g,i+k,none⟩=some (.int .u64 (x:Nat)):=by rw [hx];exact hO'.cell hik
     have hfr:=hO'.frozen (i+k);have hab:=Kd0 ha9 hb9;obtain ⟨ab,hab'⟩ : ∃ab,ab=a*b:=⟨_,rfl⟩
     have habz:(a:Int)*(b:Int)=(ab:Int):=by rw [hab'];rfl
     rw [<-hab'] at hab
     have Hstep:Hid ((vP (o'.set (i+k) ((c+(x+ab))%1000000000)):Int)+((c+(x+ab))/1000000000:Nat)*(1000000000^i*1000000000^(k+1))=vP o+a*vP (q.take (k+1))*1000000000^i):=by
      unfold Hid;rw [Kcq _ _ _ hik,XY q k hlk,<-hx,<-hb,Int.pow_add,Int.pow_succ (1000000000:Int) k];have:=Kjd (o:=x) (b:=b) Ho'.out.2.1;rw [habz] at this;rw [show (((c+(x+ab))%1000000000:Nat):Int)=((c:Int)+(x+ab))%1000000000 by omega,show (((c+(x+ab))/1000000000:Nat):Int)=((c:Int)+(x+ab))/1000000000 by omega];exact this
     have hsm:Kz (o'.set (i+k) ((c+(x+ab))%1000000000)):=ZX Ho'.out.1 _ (Nat.mod_lt _ (by omega))
     have hz : ∀j,i+q.length<=j -> ∀h:j<(o'.set (i+k) ((c+(x+ab))%1000000000)).length,(o'.set (i+k) ((c+(x+ab))%1000000000))[j]=0:=by
      intro j hj h;rw [List.getElem_set_ne (by omega)];exact Ho'.out.2.2 j hj (by simpa using h)
     have Hz:=hid hz;have Hsm:=hid hsm;have hset:=hO'.set (i+k) ((c+(x+ab))%1000000000);have hcz:(((c+(x+ab))%1000000000:Nat):Int)=(c+(x+ab):Int)%1000000000:=by omega
     rw [hcz] at hset;have Hset:=hid hset;obtain ⟨c',hc'⟩ : ∃c',c'=(c+(x+ab))/1000000000:=⟨_,rfl⟩
     have hc'9:c'<1000000000:=by omega
     have hc'z:(c+(x+ab):Int)/1000000000=(c':Int):=by omega
     rw [<-hc'] at Hstep;have hngl:i+k<n:=by omega
     clear hx hb hab' hz hsm hset hcz hc' Ho' Ho
     go_wp2
     obtain ⟨hO2,hG2⟩:=Hset.out;go_roundw
     case rel=>exact ⟨k+1,c',_,by omega,by go_num,congrArg (Value.int .u64) hc'z,hc'9,by rw [List.length_set];exact hol',⟨Hsm.out,Hstep.out,Hz.out⟩,hO2,Kb hE' hG2 (by have:=Hg.out;omega)⟩
     case measure=>simp [intOf]<;>omega
    ·obtain rfl:k=q.length:=by omega
     have hik:i+q.length<o'.length:=by rw [hol'];have:=Hn.out;omega
     have hin:i+q.length<n:=by omega
     have hz0:=Ho'.out.2.2 (i+q.length) (by omega) hik;have hcell2:wr.cell? ⟨g,i+q.length,none⟩=some (.int .u64 0):=by rw [hO'.cell hik,hz0];rfl
     have hfr:=hO'.frozen (i+q.length);have Hset:=hid (hO'.set (i+q.length) c)
     have Hst:Hid (Kz (o'.set (i+q.length) c)/\(vP (o'.set (i+q.length) c):Int)=vP (p.take (i+1))*vP q /\ ∀j,i+1+q.length<=j -> ∀h:j<(o'.set (i+q.length) c).length,(o'.set (i+q.length) c)[j]=0):=by
      refine ⟨ZX Ho'.out.1 _ hc9,?_,λj hj h => ?_⟩
      ·have e1:=Ho'.out.2.1;rw [List.take_length] at e1;rw [Kcq _ _ _ hik,hz0,XY p i hlt,<-Ha.out,Int.pow_add];have e2:=Ho.out.2.1;rw [e2] at e1;generalize (1000000000:Int)^i=X at *;generalize (1000000000:Int)^q.length=Y at *;generalize (vP o':Int)=Z at *
       grind
      ·rw [List.getElem_set_ne (by omega)];exact Ho'.out.2.2 j (by omega) (by simpa using h)
     have hcap:=hO'.cap;clear hz0 Ho Ho'
     go_wp2
     obtain ⟨hO2,hG2⟩:=Hset.out;go_roundw
     case rel=>exact ⟨i+1,_,by omega,by go_num,by rw [List.length_set];exact hol',Hst,hO2,Kb hE' hG2 (by have:=Hg.out;omega)⟩
     case measure=>simp [intOf]<;>omega
  ·obtain rfl:i=p.length:=by omega
   have hsl:=hO.sl;have htr:=Xg (gc:=n) hsl (by omega) (by omega);rw [hol] at htr;have Htr:=hid htr
   have htl:tl o=pc (vP p*vP q):=by
    rw [Kac Ho.out.1];congr 1
    have:=Ho.out.2.1;rw [List.take_length] at this;exact_mod_cast this
   have Htl:=hid htl;clear htr htl hsl;go_wp2_with fail;refine Htr.out.mono ?_;rintro e w2 ⟨rfl,hb2⟩;go_wp2_with fail;go_ret;refine ⟨_,rfl,?_,hE.trans hb2⟩;have:=(hO.tl).ext hb2;rw [Htl.out] at this ⊢;exact ⟨g,n,rfl,by rw [Hg.out];exact this⟩
theorem KeT (o:List Nat) (i d:Nat) (h:i<o.length):(o.set i d).drop i=d::o.drop (i+1):=by
 rw [List.drop_eq_getElem_cons (by simpa using h),List.getElem_set_self,List.drop_set_of_lt (by omega)]
theorem KfF {w:World} {ga:Option Addr} {b1 o1 c1 n:Nat} {p:List Nat} (h1:Sl w ga b1 o1 (us p)) (s1:Kz p) (l1:p.length<=2000000000000) (hn0:0<n) (hn:n<1000000000) :
  Calls Tryz.prog 147 #[.slice ga p.length c1,.int .u64 n] w λe w' => ∃v,e = .returned (.tuple #[v,.int .u64 (vP p%n:Nat)])/\Kkq w.heap.size w' v (vP p/n)/\Ext w w':=by
 obtain ⟨i0,hi,hz0,hz1,hz2⟩:=info_parts Tryz.infoU64;have H1:=hid h1;have S1:=hid s1;clear h1 s1
 go_enter Tryz.func147,Tryz.ntmps147
 go_wp2_with (at_make;refine wpList_make_full _ rfl _ _ 200 rfl w.heap.size 191 i0 (.int .u64 0) 1 Tryz.underlying200 hi hz0 hz1 .i64 .i64 _ _ p.length rfl rfl (by omega) (by omega) (by rw [hz2];omega) (by unfold maxLen;omega) (Nat.le_refl _) ?_;intro w1 hown1 hgrow1)
 have he1:=KR hgrow1;clear hgrow1;generalize hg:w.heap.size=g at *;have Hg:=hid hg;clear hg
 have hO1:KG g w1 g p.length (List.replicate p.length 0):=by
  unfold KG
  have e:(madeCells (Value.int .u64 0).cells (p.length*1)).toList=us (List.replicate p.length 0):=by
   rw [show (Value.int .u64 0).cells = #[.int .u64 0] from rfl,toList_madeCells_one,Nat.mul_one];simp [us]
  rw [e] at hown1;simpa using hown1
 clear hown1
 go_loopw [7,8] (λrest idx wr => ∃(k r:Nat) (o:List Nat),k<=p.length/\idx = .int .i64 ((k:Int)-1)/\rest = .int .u64 r/\r<n/\o.length=p.length/\Hid (Kz o/\vP (p.drop k)=vP (o.drop k)*n+r)/\KG g wr g p.length o/\Ext w wr) (λ_ idx _=>(intOf idx+1).toNat)
 case atStart =>
  refine ⟨p.length,0,List.replicate p.length 0,Nat.le_refl _,by go_num,rfl,hn0,by simp,⟨?_,?_⟩,hO1,he1⟩
  ·intro d hd;rw [List.mem_replicate] at hd;omega
  ·rw [List.drop_length,List.drop_eq_nil_of_le (by simp)];simp [vP]
 case round =>
  obtain ⟨k,r,o,hkp,rfl,rfl,hrn,hol,Ho,hO,hE⟩:=hrel;clear hO1 he1
  rcases Nat.eq_zero_or_pos k with rfl | hk0
  ·have hsl:=hO.sl;have htr:=Xg (gc:=p.length) hsl (by omega) (by omega);rw [hol] at htr;have Htr:=hid htr;have e0:=Ho.out.2;rw [List.drop_zero,List.drop_zero] at e0
   have hq:vP p/n=vP o/\vP p%n=r:=by
    rw [e0,Nat.mul_comm];exact ⟨by rw [Nat.mul_add_div hn0,Nat.div_eq_of_lt hrn];rfl,by rw [Nat.mul_add_mod,Nat.mod_eq_of_lt hrn]⟩
   have htl:tl o=pc (vP p/n):=by rw [Kac Ho.out.1,hq.1]
   have Htl:=hid htl;have Hq:=hid hq.2;clear htr htl hsl e0 hq;go_wp2_with fail;refine Htr.out.mono ?_;rintro e w2 ⟨rfl,hb2⟩;go_wp2_with fail;go_ret2;refine ⟨_,KN (by rw [Hq.out];rfl),?_,hE.trans hb2⟩;have:=(hO.tl).ext hb2;rw [Htl.out] at this ⊢;exact ⟨g,p.length,rfl,by rw [Hg.out];exact this⟩
  ·obtain ⟨i,rfl⟩ : ∃i,k=i+1:=⟨k-1,by omega⟩
   have hkz:((i+1:Nat):Int)-1=(i:Int):=by omega
   rw [hkz];obtain rfl:=H1.out.addr (by rw [Qa];omega);have hip:i<p.length:=by omega
   obtain ⟨d,hd⟩ : ∃d,d=p[i]:=⟨_,rfl⟩
   have hd9:d<1000000000:=by rw [hd];exact K9 S1.out hip
   have hcell:wr.cell? ⟨b1,o1+i,none⟩=some (.int .u64 (d:Nat)):=by rw [hd];exact hE.cell (H1.out.cell i _ (ZY hip))
   have hio:i<o.length:=by omega
   have hcell2:wr.cell? ⟨g,i,none⟩=some (.int .u64 (o[i]:Nat)):=hO.cell hio;have hfr:=hO.frozen i;obtain ⟨q,hq⟩ : ∃q,q=(r*1000000000+d)/n:=⟨_,rfl⟩
   obtain ⟨m,hm⟩ : ∃m,m=(r*1000000000+d)%n:=⟨_,rfl⟩
   have hmn:m<n:=by rw [hm];exact Nat.mod_lt _ hn0
   have hdm:=Nat.div_add_mod (r*1000000000+d) n;rw [<-hq,<-hm] at hdm
   have hq9:q<1000000000:=by
    rw [hq];refine Nat.div_lt_of_lt_mul ?_
    have:=Nat.mul_le_mul_right 1000000000 (show r+1<=n by omega);omega
   have hqz:((r:Int)*1000000000+d)/n=(q:Int):=by rw [hq];simp
   have hmz:((r:Int)*1000000000+d)%n=(m:Int):=by rw [hm];simp
   have Hst:Hid (Kz (o.set i q)/\vP (p.drop i)=vP ((o.set i q).drop i)*n+m):=by
    refine ⟨ZX Ho.out.1 _ hq9,?_⟩;have e0:=Ho.out.2;rw [KeT o i q hio,List.drop_eq_getElem_cons hip,<-hd];simp only [vP];rw [e0];generalize vP (o.drop (i+1))=Z;have h3:(q+1000000000*Z)*n=n*q+1000000000*(Z*n):=by rw [Nat.add_mul,Nat.mul_assoc,Nat.mul_comm q n]
    rw [h3];omega
   have Hset:=hid (hO.set i q);have hnz:(1:Int)<=(n:Int):=by omega
   clear hd hq hm hdm hkz hk0 Ho
   go_wp2
   obtain ⟨hO2,hG2⟩:=Hset.out;go_roundw
   case rel=>exact ⟨i,m,_,by omega,by go_num,congrArg (Value.int .u64) hmz,hmn,by rw [List.length_set];exact hol,Hst,by first | exact hO2 | (rw [hqz];exact hO2),Kb hE (by first | exact hG2 | (rw [hqz];exact hG2)) (by have:=Hg.out;omega)⟩
   case measure=>simp [intOf]<;>omega
theorem Kdo {B:Nat} {w:World} {g cap:Nat} {p q:List Nat} {gb:Option Addr} {b2 o2 c2 at_:Nat} (hO0:KG B w g cap p) (h2:Sl w gb b2 o2 (us q)) (hne:b2≠g) (s1:Kz p) (s2:Kz q)
  (hl:at_+q.length+1<=p.length) (lp:p.length<=4000000000000) :
  Calls Tryz.prog 149 #[slv g p.length cap,.slice gb q.length c2,.int .i64 at_] w λe w' => ∃p':List Nat,e = .returned (.tuple #[])/\Hid (p'.length=p.length/\Kz p'/\p'.drop (at_+q.length+1)=p.drop (at_+q.length+1) /\ ∃c:Nat,(vP p':Int)+c*1000000000^(at_+q.length+1)=vP p+vP q*1000000000^at_)/\KG B w' g cap p'/\w.grownBy w' (some g):=by
 have H2:=hid h2;have S2:=hid s2;have hgl:=hO0.lt.2;clear h2 s2
 go_enter Tryz.func149,Tryz.ntmps149
 go_wp2
 go_loopw [6,7] (λcy idx wr => ∃(k c:Nat) (o:List Nat),k<=q.length+1/\idx = .int .i64 k/\cy = .int .u64 c/\c<=1/\o.length=p.length/\Hid ((Kz o/\o.drop (at_+q.length+1)=p.drop (at_+q.length+1))/\(vP o:Int)+c*(1000000000^at_*1000000000^k)=vP p+vP (q.take k)*1000000000^at_)/\KG B wr g cap o/\w.grownBy wr (some g)) (λ_ idx _=>q.length+1-(intOf idx).toNat)
 case atStart=>exact ⟨0,0,p,by omega,rfl,rfl,by omega,rfl,⟨⟨s1,rfl⟩,by simp [vP]⟩,hO0,World.grownBy.refl _ _⟩
 case round =>
  obtain ⟨k,c,o,hkq,rfl,rfl,hc1,hol,Ho,hO,hG⟩:=hrel;clear hO0
  by_cases hk:k<=q.length
  ·have hik:at_+k<o.length:=by omega
   have hikp:at_+k<p.length:=by omega
   obtain ⟨x,hx⟩ : ∃x,x=o[at_+k]:=⟨_,rfl⟩
   have hx9:x<1000000000:=by rw [hx];exact K9 Ho.out.1.1 hik
   have hcell2:wr.cell? ⟨g,at_+k,none⟩=some (.int .u64 (x:Nat)):=by rw [hx];exact hO.cell hik
   have hfr:=hO.frozen (at_+k);have hcap:=hO.cap
   by_cases hlk:k<q.length
   ·obtain rfl:=H2.out.addr (by rw [Qa];omega);obtain ⟨b,hb⟩ : ∃b,b=q[k]:=⟨_,rfl⟩
    have hb9:b<1000000000:=by rw [hb];exact K9 S2.out hlk
    have hcell:wr.cell? ⟨b2,o2+k,none⟩=some (.int .u64 (b:Nat)):=by
     have h0:=H2.out.cell k _ (ZY hlk);rw [<-hb] at h0;rw [World.cell?_of_block (hG.block b2 (World.block_lt_of_cell? _ _ h0) (by simpa using hne))];exact h0
    have Hstep:Hid ((Kz (o.set (at_+k) ((c+x+b)%1000000000))/\(o.set (at_+k) ((c+x+b)%1000000000)).drop (at_+q.length+1)=p.drop (at_+q.length+1))/\(vP (o.set (at_+k) ((c+x+b)%1000000000)):Int)+((c+x+b)/1000000000:Nat)*(1000000000^at_*1000000000^(k+1))=vP p+vP (q.take (k+1))*1000000000^at_):=by
     refine ⟨⟨ZX Ho.out.1.1 _ (Nat.mod_lt _ (by omega)),by rw [List.drop_set_of_lt (by omega)];exact Ho.out.1.2⟩,?_⟩;rw [Kcq _ _ _ hik,XY q k hlk,<-hx,<-hb,Int.pow_add,Int.pow_succ (1000000000:Int) k];have:=Ke7 (o:=x) (b:=b) Ho.out.2;rw [show (((c+x+b)%1000000000:Nat):Int)=((c:Int)+x+b)%1000000000 by omega,show (((c+x+b)/1000000000:Nat):Int)=((c:Int)+x+b)/1000000000 by omega];exact this
    have hset:=hO.set (at_+k) ((c+x+b)%1000000000);rw [show (((c+x+b)%1000000000:Nat):Int)=((c:Int)+x+b)%1000000000 by omega] at hset;have Hset:=hid hset;obtain ⟨c',hc'⟩ : ∃c',c'=(c+x+b)/1000000000:=⟨_,rfl⟩
    have hc'1:c'<=1:=by omega
    have hc'z:((c:Int)+x+b)/1000000000=(c':Int):=by omega
    rw [<-hc'] at Hstep;clear hx hb hset hc' Ho
    go_wp2
    obtain ⟨hO2,hG2⟩:=Hset.out;go_roundw
    case rel=>exact ⟨k+1,c',_,by omega,by go_num,congrArg (Value.int .u64) hc'z,hc'1,by rw [List.length_set];exact hol,Hstep,hO2,Kg hG hG2⟩
    case measure=>simp [intOf]<;>omega
   ·obtain rfl:k=q.length:=by omega
    have Hstep:Hid ((Kz (o.set (at_+q.length) ((c+x)%1000000000))/\(o.set (at_+q.length) ((c+x)%1000000000)).drop (at_+q.length+1)=p.drop (at_+q.length+1))/\(vP (o.set (at_+q.length) ((c+x)%1000000000)):Int)+((c+x)/1000000000:Nat)*(1000000000^at_*1000000000^(q.length+1))=vP p+vP (q.take (q.length+1))*1000000000^at_):=by
     refine ⟨⟨ZX Ho.out.1.1 _ (Nat.mod_lt _ (by omega)),by rw [List.drop_set_of_lt (by omega)];exact Ho.out.1.2⟩,?_⟩;have e1:=Ho.out.2;rw [List.take_length] at e1;rw [Kcq _ _ _ hik,<-hx,Int.pow_add,Int.pow_succ (1000000000:Int) q.length,List.take_of_length_le (by omega)];have:=Ke7 (o:=x) (b:=0) e1;rw [show (((c+x)%1000000000:Nat):Int)=((c:Int)+x+0)%1000000000 by omega,show (((c+x)/1000000000:Nat):Int)=((c:Int)+x+0)/1000000000 by omega,this];simp
    have hset:=hO.set (at_+q.length) ((c+x)%1000000000);rw [show (((c+x)%1000000000:Nat):Int)=((c:Int)+x)%1000000000 by omega] at hset;have Hset:=hid hset;obtain ⟨c',hc'⟩ : ∃c',c'=(c+x)/1000000000:=⟨_,rfl⟩
    have hc'1:c'<=1:=by omega
    have hc'z:((c:Int)+x)/1000000000=(c':Int):=by omega
    rw [<-hc'] at Hstep;clear hx hset hc' Ho
    go_wp2
    obtain ⟨hO2,hG2⟩:=Hset.out;go_roundw
    case rel=>exact ⟨q.length+1,c',_,by omega,by go_num,congrArg (Value.int .u64) hc'z,hc'1,by rw [List.length_set];exact hol,Hstep,hO2,Kg hG hG2⟩
    case measure=>simp [intOf]<;>omega
  ·obtain rfl:k=q.length+1:=by omega
   go_wp2
   go_end0
   refine ⟨o,rfl,⟨hol,Ho.out.1.1,Ho.out.1.2,c,?_⟩,hO,hG⟩;have:=Ho.out.2;rw [List.take_of_length_le (by omega)] at this;rw [Nat.add_assoc,Int.pow_add];exact this
end
end Go.Proofs.YtdmaofimeknkbaaGreatDoor
