/- Part 23 of the proof of the claim: contracts of the functions that it reaches, and plain laws; no condition. -/
import Derived.Test.YtdmaofimeknkbaaGreatDoorQ12
import Derived.Test.YtdmaofimeknkbaaGreatDoorQ19
import Derived.Test.YtdmaofimeknkbaaGreatDoorQ11
import Derived.Test.YtdmaofimeknkbaaGreatDoorQ22
set_option maxRecDepth 100000
set_option maxHeartbeats 20000000
namespace Go.Proofs.YtdmaofimeknkbaaGreatDoor
section
open Go.RowKit Go.Sort
open Lib (hid)
theorem Khh {w:World} {sa:Option Addr} {gb go cap:Nat} {vs:List Value} {p:Nat->Bool} {k:Int} (hS:Sl w sa gb go vs) (hl:vs.length<=1000000)
  (hF : ∀i (h:i<vs.length) W,Ext w W->Calls Tryz.prog 110 #[vs[i]] W λe w'=>e = .returned (.bool (p i))/\Ext W w') (hk:IxR p vs.length k) :
  Calls Tryz.prog 109 #[.slice sa vs.length cap,.func (.func 110) #[] #[]] w λe w'=>e = .returned (.int .i64 k)/\Ext w w':=by
 have HF:=hid hF;have HK:=hid hk;have HS:=hid hS;clear hF hk hS
 go_enter Tryz.func109,Tryz.ntmps109
 go_wp2_with fail
 go_loopw [8] (λidx wr => ∃i:Nat,i<=vs.length/\idx = .int .i64 i/\Hid (∀j,j<i->p j=false)/\Ext w wr) (λidx _=>vs.length-(intOf idx).toNat)
 case atStart=>exact ⟨0,by omega,by go_num,hid (λj h=>by omega),Ext.refl _⟩
 case round =>
  obtain ⟨i,hi,rfl,Hp,hE⟩:=hrel;generalize wr=X at *
  by_cases hlt:i<vs.length
  ·have hii:(i:Int)<(vs.length:Int):=by omega
   obtain ⟨u,hu⟩ : ∃u,u=vs[i]:=⟨_,rfl⟩
   have hc:=hE.cell (HS.out.cell i u (by rw [hu];exact List.getElem?_eq_getElem hlt));obtain rfl:=HS.out.addr (by omega);have hf:=HF.out i hlt X hE;rw [<-hu] at hf;have Hf:=hid hf;clear hf hu
   cases hpi:p i
   ·rw [hpi] at Hf;have Hpi:=hid hpi;clear hpi;go_wp2_with fail;refine Hf.out.mono ?_;rintro e W ⟨rfl,hE2⟩;go_wp2_with fail;go_roundw
    case rel=>exact ⟨i+1,by omega,by go_num,hid (λj hj=>by
     by_cases e:j=i
     ·subst e;exact Hpi.out
     ·exact Hp.out j (by omega)),hE.trans hE2⟩
    case measure=>simp [intOf]<;>omega
   ·rw [hpi] at Hf;have Hki:=hid (JH HK.out hlt hpi Hp.out);clear hpi;go_wp2_with fail;refine Hf.out.mono ?_;rintro e W ⟨rfl,hE2⟩;go_wp2_with fail;go_ret;exact ⟨by rw [Hki.out];rfl,hE.trans hE2⟩
  ·have Hki:=hid (JI HK.out (λj hj=>Hp.out j (by omega)));go_wp2_with fail;go_ret;exact ⟨by rw [Hki.out];rfl,hE⟩
theorem Ki7 (z:Int) (w:World):Calls Tryz.prog 110 #[I z] w λe w'=>e = .returned (.bool (decide (z≠0)))/\Ext w w':=by
 have hitz:(Lib.itoa z==[48])=decide (z=0):=KB z
 by_cases h:z=0
 ·rw [decide_eq_true h] at hitz;have hb:decide (z≠0)=false:=decide_eq_false (by simpa using h);rw [hb];clear h hb
  go_enter Tryz.func110,Tryz.ntmps110
  go_wp2
  go_ret;exact ⟨rfl,Ext.refl _⟩
 ·rw [decide_eq_false h] at hitz;have hb:decide (z≠0)=true:=decide_eq_true h;rw [hb];have hitz2:(Lib.itoa z != [48])=true:=by simp [bne,hitz]
  clear h hb
  go_enter Tryz.func110,Tryz.ntmps110
  go_wp2
  go_ret;exact ⟨rfl,Ext.refl _⟩
theorem KaC {w:World} {sa:Option Addr} {gb go cap:Nat} {l:List Int} (hS:Sl w sa gb go (ss l)) (hl:l.length<=1000000) :
  Calls Tryz.prog 66 #[.slice sa l.length cap] w λe w'=>e = .returned (.int .i64 (pv l:Nat))/\Ext w w':=by
 have hix:=Khh (cap:=cap) (p:=λj=>decide (l.getD j 0≠0)) (k:=pvI l) (w:=w) hS (by rw [Kx];exact hl) (λj hj W hW=>by
  have hj':j<l.length:=by simpa using hj
  have e:(ss l)[j]=I (l.getD j 0):=by rw [Ka hj'];simp [ss]
  rw [e];exact Ki7 _ W) (by rw [Kx];exact KiW l)
 rw [Kx] at hix;have Hix:=hid hix;clear hix hS
 by_cases h:pv l<l.length
 ·have e:pvI l=(pv l:Int):=by unfold pvI;rw [if_pos h]
  rw [e] at Hix;clear e h;generalize pv l=p at *
  go_enter Tryz.func66,Tryz.ntmps66
  go_wp2_with fail;refine Hix.out.mono ?_;rintro e w1 ⟨rfl,hE1⟩;go_wp2_with fail;go_ret;exact ⟨rfl,hE1⟩
 ·have e:pvI l = -1:=by unfold pvI;rw [if_neg h]
  have e2:pv l=l.length:=by have:=Kpu l;omega
  rw [e] at Hix;rw [e2];clear e h e2
  go_enter Tryz.func66,Tryz.ntmps66
  go_wp2_with fail;refine Hix.out.mono ?_;rintro e w1 ⟨rfl,hE1⟩;go_wp2_with fail;go_ret;exact ⟨rfl,hE1⟩
theorem GrX.lt {B:Nat} {w:World} {v:Value} {F:Mx} {ad:List (Nat×Nat)} (h:GrX B w v F ad) : ∀i (_:i<ad.length) (_:i<F.length),0<F[i].length->B<=ad[i].1/\ad[i].1<w.heap.size :=
 λi a b c=>(h.row i b a c).lt
theorem KW.xv {B:Nat} {w:World} {v:Value} {l:List Int} (h:KW B w v l) (h0:l.length=0->v = .slice none 0 0) : ∃g c,v=xv l.length g c/\(0<l.length->Kd 45 B w g c (ss l)):=by
 rcases Nat.eq_zero_or_pos l.length with e | e
 ·exact ⟨0,0,by rw [h0 e,e,Kko],λh=>by omega⟩
 ·rcases h.2 with ⟨rfl,h1⟩ | ⟨g,cap,cur,rfl,hb,hg,hn,hm,hs,ht⟩
  ·omega
  ·refine ⟨g,cap,by rw [Qo e],λ_ => ?_⟩;unfold Kd;rw [Kx];exact h
theorem Kek {w : World} {v : Value} {M : Mx} (hM : KJ w v M) (hl : M.length <= 1000000) (hn : ∀r ∈ M, r.length <= 1000000) (h64 : ∀r ∈ M, ∀z ∈ r, I64 z) (hL : Laid w) :
    Calls Tryz.prog 64 #[v] w λe w' => ∃v' ad,e = .returned v'/\GrX w.heap.size w' v' M ad/\Ext w w':=by
  obtain ⟨sa,gb,go,cap,vs,rfl,hcap,hvl,hS,hr⟩:=hM;have HS:=hid hS;have HV:=hid hvl;have HR:=hid hr;have HN:=hid hn;have H64:=hid h64;have HL:=hid hL;clear hS hvl hr hn h64 hL
  go_enter Tryz.func64,Tryz.ntmps64
  go_wp2_with fail
  go_loopw [3,11] (λout idx wr => ∃(i:Nat) (ad:List (Nat×Nat)),i<=M.length/\idx = .int .i64 i/\Hid (GrX w.heap.size wr out (M.take i) ad)/\Ext w wr) (λ_ idx _=>M.length-(intOf idx).toNat)
  case atStart=>exact ⟨0,[],by omega,by go_num,hid (GrX.nil _ _),Ext.refl _⟩
  case round =>
    obtain ⟨i,ad,hi',rfl,hV,hE⟩:=hrel;generalize wr=X at *
    by_cases hlt:i<M.length
    · have hii:(i:Int)<(M.length:Int):=by omega
      obtain rfl:=HS.out.addr (by rw [HV.out];omega);obtain ⟨sr,br,or,cr,hrow,hrc,hSr⟩:=KJ.row HS.out HV.out HR.out hlt;obtain ⟨r,hr⟩ : ∃r,r=M[i]:=⟨_,rfl⟩
      have Hr64:=hid (H64.out _ (List.getElem_mem hlt));have hrn:=HN.out _ (List.getElem_mem hlt);have Hsn:=hid (Zh hlt);rw [<-hr] at hrow hrc hSr Hr64 hrn Hsn;have hrow':=hE.cell hrow;have HSr:=hid (hSr.ext hE);have Hil:=hid (show (M.take i).length=i by rw [List.length_take];omega);have Hlt:=hid hV.out.lt;have hXw:=hE.size;clear hrow hSr hr;go_wp2_with fail
      go_loopw [6,17] (λlv jdx wr => ∃j:Nat,j<=r.length/\jdx = .int .i64 j/\Hid (KW X.heap.size wr lv (r.take j))/\Hid (j=0->lv = .slice none 0 0)/\Ext X wr) (λ_ jdx _=>r.length-(intOf jdx).toNat)
      case atStart=>exact ⟨0,by omega,by go_num,hid (KW.nil _ _),hid (λ_=>rfl),Ext.refl _⟩
      case round =>
        obtain ⟨j,hj,rfl,hO,h0,hE2⟩:=hrel;generalize wr=Y at *
        by_cases hjl:j<r.length
        · have hji:(j:Int)<(r.length:Int):=by omega
          obtain ⟨z,hz⟩ : ∃z,z=r[j]:=⟨_,rfl⟩
          have hcz:=hE2.cell (HSr.out.cell j (.int .i64 z) (by rw [hz];exact Qg hjl));obtain rfl:=HSr.out.addr (by simp;omega);have hz64:=Hr64.out z (by rw [hz];exact List.getElem_mem hjl);have hof:=hid (Qb (n:=z) (w:=Y) hz64.1 hz64.2 (HL.out.ext (hE.trans hE2)));have Hjl:=hid (show (r.take j).length=j by rw [List.length_take];omega);have Hsj:=hid (show r.take (j+1)=r.take j++[z] by rw [List.take_succ_eq_append_getElem hjl,hz]);have hXY:=hE2.size;clear hz hz64
          go_wp2_with (first
            | (go_at_call 22;refine hof.out.mono ?_;rintro e W ⟨rfl,hW⟩;have hYW:=hW.size)
            | (at_builtin;refine KgI rfl _ _ rfl rfl ((hO.out.ext hW).ext ((Ext.refl _).alloc _)) rfl (b:=W.heap.size) (z:=z) (by go_simp) (by rw [Hjl.out];omega) (by simp;omega) ?_;intro gg cap2 w8 hO8 hB8 hG8;rw [Hjl.out] at hO8 ⊢;rw [<-Hsj.out] at hO8))
          have hE8:Ext X w8:=Below.trans ((hE2.trans hW).alloc (.cells #[I z] 45)) hB8;have HO8:=hid hO8;clear hG8 hB8 hO8;go_wp2_with fail;go_roundw
          case rel=>exact ⟨j+1,by omega,by go_num,HO8,hid (λh=>by omega),hE8⟩
          case measure=>simp [intOf]<;>omega
        · have hje:j=r.length:=by omega
          have htk:r.take j=r:=List.take_of_length_le (by omega);rw [htk] at hO;obtain ⟨g0,c0,hxv,hO0⟩:=hO.out.xv (λh=>h0.out (by omega));have HO0:=hid hO0;subst hxv;obtain ⟨xa,xl,xk,hxv⟩:=KeO r.length g0 c0;have Hxv:=hid hxv;rw [hxv];have hXY:=hE2.size
          have Hne:=hid (show 0<r.length -> ∀i (h:i<ad.length) (h':i<(M.take _).length),0<(M.take _)[i].length->ad[i].1≠g0 from λh i a b c=>by
            have h1:=(HO0.out h).lt.1;have h2:=(Hlt.out i a b c).2
            omega)
          clear hO0 hxv hje htk h0 hO;go_wp2_with (at_builtin;refine KgH rfl _ _ rfl (B:=w.heap.size) rfl ((hV.out.ext hE2).ext ((Ext.refl _).alloc _)) rfl (b:=Y.heap.size) (r:=r) (g0:=g0) (c0:=c0) (by rw [Hxv.out];go_simp) (λh=>((HO0.out h).mono hXw).ext ((Ext.refl _).alloc _)) Hne.out (by rw [Hil.out];omega) (by simp;omega) ?_;intro gg cap2 w8 hO8 hB8 hG8;rw [Hil.out,<-Hsn.out] at hO8;rw [Hil.out])
          have hE8:Ext w w8:=Below.trans ((hE.trans hE2).alloc (.cells #[.slice xa xl xk] 108)) hB8;have HO8:=hid hO8;clear hG8 hB8 hO8;go_wp2_with fail;go_roundw
          case rel=>exact ⟨i+1,_,by omega,by go_num,HO8,hE8⟩
          case measure=>simp [intOf]<;>omega
    · have hie:i=M.length:=by omega
      subst hie;go_wp2_with fail;go_ret;have:=hV.out;rw [List.take_length] at this;exact ⟨_,ad,rfl,this,hE⟩
end
section
def QJ (i t:Nat) (q:Int) (A:Mx):Mx:=A.set i (QR q (A.getD i []) (A.getD t []))
def Je (i o:Nat) (q:Int) (A:Mx):Mx:=A.map λl=>l.set i (l.getD i 0-q*l.getD o 0)
def Zq (i j:Nat) (A:Mx):Mx:=(A.set i (A.getD j [])).set j (A.getD i [])
def swapL (i j:Nat) (l:List Int):List Int:=(l.set i (l.getD j 0)).set j (l.getD i 0)
def ZC (i j:Nat) (A:Mx):Mx:=A.map (swapL i j)
def ZT (i:Nat) (A:Mx):Mx:=A.set i ((A.getD i []).map λz => -z)
def KcU (A:Mx) (b:Option (Nat×Nat)) (i k:Nat):Option (Nat×Nat) :=
 if eM A i k=0 then b else match b with
  | none=>some (i,k)
  | some p=>if (eM A i k).natAbs<(eM A p.1 p.2).natAbs then some (i,k) else b
def ZB (A:Mx) (i t:Nat) (b:Option (Nat×Nat)):Nat->Option (Nat×Nat)
 | 0=>b
 | k+1=>KcU A (ZB A i t b k) i (t+k)
def QN (A:Mx) (t w:Nat):Nat->Option (Nat×Nat)
 | 0=>none
 | i+1=>ZB A (t+i) t (QN A t w i) w
structure Dg where
 a:Mx
 l:Mx
 r:Mx
 deriving Inhabited
def Kp (t i k:Nat) (s:Dg):Dg:=⟨ZC t k (Zq t i s.a),Zq t i s.l,ZC t k s.r⟩
def Kj9 (t i:Nat) (s:Dg):Dg:=⟨QJ i t ((eM s.a i t).fdiv (eM s.a t t)) s.a,QJ i t ((eM s.a i t).fdiv (eM s.a t t)) s.l,s.r⟩
def Kn (t:Nat):Nat->Dg->Dg
 | 0,s=>s
 | j+1,s=>Kj9 t (t+1+j) (Kn t j s)
def Yo (t:Nat):Nat->Dg->Bool
 | 0,_=>true
 | j+1,s=>Yo t j s&&decide ((eM (Kn t j s).a (t+1+j) t).fmod (eM (Kn t j s).a t t)=0)
def KjI (t k:Nat) (s:Dg):Dg:=⟨Je k t ((eM s.a t k).fdiv (eM s.a t t)) s.a,s.l,Je k t ((eM s.a t k).fdiv (eM s.a t t)) s.r⟩
def Qc (t:Nat):Nat->Dg->Dg
 | 0,s=>s
 | j+1,s=>KjI t (t+1+j) (Qc t j s)
def Yg (t:Nat):Nat->Dg->Bool
 | 0,_=>true
 | j+1,s=>Yg t j s&&decide ((eM (Qc t j s).a t (t+1+j)).fmod (eM (Qc t j s).a t t)=0)
def Kw (n c t:Nat) (s:Dg):Dg:=Qc t (c-(t+1)) (Kn t (n-(t+1)) s)
def XO (n c t:Nat) (s:Dg):Bool:=Yo t (n-(t+1)) s&&Yg t (c-(t+1)) (Kn t (n-(t+1)) s)
def Xl (A:Mx) (t i:Nat):Nat->Bool
 | 0=>false
 | k+1=>Xl A t i k||decide ((eM A i (t+1+k)).fmod (eM A t t)≠0)
def Q6 (A:Mx) (t w:Nat):Nat->Option Nat
 | 0=>none
 | j+1=>match Q6 A t w j with
  | some x=>some x
  | none=>if Xl A t (t+1+j) w then some (t+1+j) else none
def JE (t i:Nat) (s:Dg):Dg:=⟨QJ t i (-1) s.a,QJ t i (-1) s.l,s.r⟩
def XF (t:Nat) (s:Dg):Dg:=if eM s.a t t<0 then ⟨ZT t s.a,ZT t s.l,s.r⟩ else s
def Xc (n c t:Nat) (s:Dg):Option (Nat×Dg) :=
 match QN s.a t (c-t) (n-t) with
 | none=>none
 | some (i,k) =>
  if XO n c t (Kp t i k s) then
   match Q6 (Kw n c t (Kp t i k s)).a t (c-(t+1)) (n-(t+1)) with
   | some j=>some (t,JE t j (Kw n c t (Kp t i k s)))
   | none=>some (t+1,XF t (Kw n c t (Kp t i k s)))
  else some (t,Kw n c t (Kp t i k s))
def Kl0 (E:Nat) (A:Mx):Bool:=A.all λl=>l.all λz=>decide (z.natAbs<2^E)
def KcT (E:Nat) (s:Dg):Bool:=Kl0 E s.a&&Kl0 E s.l&&Kl0 E s.r
def Ka0 (E n c:Nat):Nat->Nat->Dg->Option (Nat×Dg)
 | 0,_,_=>none
 | f+1,t,s=>if KcT E s then match Xc n c t s with
   | none=>some (t,s)
   | some p=>Ka0 E n c f p.1 p.2
  else none
def Q7 (n:Nat):Mx:=(List.range n).map λi=>KO n i
def Xs (M:Mx) (c:Nat):Dg:=⟨M,Q7 M.length,Q7 c⟩
example:(Ka0 64 2 2 10 0 (Xs [[-3,2],[-1,1]] 2)).map (λp=>(p.1,p.2.a))=some (2,[[1,0],[0,1]]):=by decide
end
section
open Go.RowKit Go.Sort
open Lib (hid)
@[simp] theorem QA (n:Nat):(Q7 n).length=n:=by simp [Q7]
theorem Kco {n i:Nat} (h:i<(Q7 n).length):(Q7 n)[i]=KO n i:=by simp [Q7]
theorem Jw (n:Nat):Ku n (Q7 n):=λr hr=>by
 obtain ⟨i,hi,rfl⟩:=List.getElem_of_mem hr;rw [Kco];simp [KO]
theorem Kcm {w:World} {n:Nat} (hn:n<=1000000) :
  Calls Tryz.prog 90 #[.int .i64 n] w λe w' => ∃v' ad,e = .returned v'/\GrX w.heap.size w' v' (Q7 n) ad/\Ext w w':=by
 go_enter Tryz.func90,Tryz.ntmps90
 go_wp2_with fail
 go_loopw [3,7] (λout idx wr => ∃(i:Nat) (ad:List (Nat×Nat)),i<=n/\idx = .int .i64 i/\Hid (GrX w.heap.size wr out ((Q7 n).take i) ad)/\Ext w wr) (λ_ idx _=>n-(intOf idx).toNat)
 case atStart=>exact ⟨0,[],by omega,by go_num,hid (GrX.nil _ _),Ext.refl _⟩
 case round =>
  obtain ⟨i,ad,hi',rfl,hV,hE⟩:=hrel;generalize wr=X at *
  by_cases hlt:i<n
  ·have hii:(i:Int)<(n:Int):=by omega
   have Hsn:=hid (show (Q7 n).take (i+1)=(Q7 n).take i++[KO n i] by rw [Zh (by simpa using hlt),Kco]);have Hil:=hid (show ((Q7 n).take i).length=i by rw [List.length_take,QA];omega);have Hlt:=hid hV.out.lt;have hXw:=hE.size;have hrep:=hid (λW (hW:W.cell? ⟨X.heap.size,0,none⟩=some (I 0))=>Kef (m:=n) hn (b:=X.heap.size) (o:=0) (c:=1) (z:=0) (w:=W) hW);go_wp2_with fail;have hz1:I 0 = .string ⟨#[48]⟩:=by unfold I S;rw [Kav]
   have hz49:I 1 = .string ⟨#[49]⟩:=by unfold I S;rw [show (1:Int)=((1:Nat):Int) from rfl,Yk,Lib.decDigits];rfl
   have Hz49:=hid hz49;refine (hrep.out _ (by rw [hz1];go_simp)).mono ?_;rintro e W1 ⟨gy,cy,rfl,hY,hE1⟩;clear hrep hz1 hz49;have hE2:=((Ext.refl X).alloc (.cells #[.string ⟨#[48]⟩] 45)).trans hE1;have hYb:X.heap.size<gy:=by have:=hY.lt.1;simp at this;omega
   have y1:=hY.cell (j:=i) (by simpa using hlt);have y2:=hY.frozen i;obtain ⟨hY3,hG3⟩:=hY.set i (I 1);rw [<-Xr,Hz49.out] at hY3;rw [Hz49.out] at hG3;have hE3:=Kb hE2 hG3 (by omega);have HY:=hid (show Kd 45 X.heap.size (W1.setCell ⟨gy,i,none⟩ (.string ⟨#[49]⟩)) gy cy (ss (KO n i)) from hY3.mono (by simp));have hYW:=HY.out.lt;clear hY hY3 hG3 hE1 hE2 Hz49;have hnl:(KO n i).length=n:=by simp [KO]
   have Hnl:=hid hnl
   have Hne:=hid (show 0<(KO n i).length -> ∀k (h:k<ad.length) (h':k<((Q7 n).take i).length),0<((Q7 n).take i)[k].length->ad[k].1≠gy from λh k a b c=>by
    have h2:=(Hlt.out k a b c).2
    omega)
   clear hnl;have hsz:=hE3.size;go_wp2_with (at_builtin;refine KgH rfl _ _ rfl (B:=w.heap.size) rfl ((hV.out.ext hE3).ext ((Ext.refl _).alloc _)) rfl (b:=W1.heap.size) (r:=KO n i) (g0:=gy) (c0:=cy) (by rw [Hnl.out,Qo (by omega)];go_simp) (λh=>(HY.out.mono hXw).ext ((Ext.refl _).alloc _)) Hne.out (by rw [Hil.out];omega) (by simp;have:=hE3.size;simp at this;omega) ?_;intro gg cap2 w8 hO8 hB8 hG8;rw [Hil.out,<-Hsn.out] at hO8;rw [Hil.out])
   have hE8:Ext w w8:=Below.trans ((hE.trans hE3).alloc (.cells #[slv gy n cy] 108)) hB8;have HO8:=hid hO8;clear hG8 hB8 hO8;go_wp2_with fail;go_roundw
   case rel=>exact ⟨i+1,_,by omega,by go_num,HO8,hE8⟩
   case measure=>simp [intOf]<;>omega
  ·have hie:i=n:=by omega
   subst hie;go_wp2_with fail;go_ret;have:=hV.out;rw [List.take_of_length_le (by simp)] at this;exact ⟨_,ad,rfl,this,hE⟩
def KfW (w:World) (M:Mx) (e:Ending) (w':World):Prop :=
 (if Xq M then ∃v,e = .returned (.tuple #[v,.int .i64 0])/\Qk w.heap.size w' v M else e = .returned (.tuple #[.slice none 0 0,.int .i64 4]))/\Ext w w'
theorem Ket {w : World} {v : Value} {M : Mx} (hM : XK w v M) (hl : M.length <= 1000000) (hn : ∀r ∈ M, r.length <= 1000000) (hb : ∀r ∈ M, ∀z ∈ r, nd z <= LIM) (hL : Laid w) :
    Calls Tryz.prog 53 #[v] w (KfW w M):=by
  obtain ⟨sa,gb,go,cap,vs,rfl,hcap,hvl,hS,hr⟩:=hM;have HS:=hid hS;have HV:=hid hvl;have HR:=hid hr;have HN:=hid hn;have HB:=hid hb;have HL:=hid hL;clear hS hvl hr hn hb hL
  go_enter Tryz.func53,Tryz.ntmps53
  go_wp2_with fail
  go_loopw [4,14] (λout idx wr => ∃i:Nat,i<=M.length/\idx = .int .i64 i/\Hid (Qk w.heap.size wr out (M.take i))/\Hid (∀j (h:j<M.length),j<i->QK M[j]=true)/\Ext w wr) (λ_ idx _=>M.length-(intOf idx).toNat)
  case atStart=>exact ⟨0,by omega,by go_num,hid (Qk.nil _ _),hid (λj _ h=>by omega),Ext.refl _⟩
  case round =>
    obtain ⟨i,hi',rfl,hV,Hs,hE⟩:=hrel;generalize wr=X at *
    by_cases hlt:i<M.length
    · have hii:(i:Int)<(M.length:Int):=by omega
      obtain rfl:=HS.out.addr (by rw [HV.out];omega);obtain ⟨sr,br,or,cr,hrow,hrc,hSr⟩:=XK.row HS.out HV.out HR.out hlt;obtain ⟨r,hr⟩ : ∃r,r=M[i]:=⟨_,rfl⟩
      have Hrb:=hid (HB.out _ (List.getElem_mem hlt));have hrn:=HN.out _ (List.getElem_mem hlt);have Hsn:=hid (Zh hlt);have Hri:=hid hr;rw [<-hr] at hrow hrc hSr Hrb hrn Hsn;have hrow':=hE.cell hrow;have HSr:=hid (hSr.ext hE);have Hil:=hid (show (M.take i).length=i by rw [List.length_take];omega);have hXw:=hE.size;have hE0:=(Ext.refl X).alloc (.cells #[] 3);have HO0:=hid (KfB (Kbj X (.cells #[] 3)) (Nat.le_refl X.heap.size));clear hrow hSr hr;go_wp2_with fail
      go_loopw [7,21] (λlv jdx wr => ∃j:Nat,j<=r.length/\jdx = .int .i64 j/\Hid (KH X.heap.size wr lv (r.take j))/\Hid (∀t (h:t<r.length),t<j->grt r[t]=false)/\Ext X wr) (λ_ jdx _=>r.length-(intOf jdx).toNat)
      case atStart=>exact ⟨0,by omega,by go_num,HO0,hid (λj _ h=>by omega),hE0⟩
      case round =>
        clear HO0 hE0;obtain ⟨j,hj,rfl,hO,Hz,hE2⟩:=hrel;generalize wr=Y at *
        by_cases hjl:j<r.length
        · have hji:(j:Int)<(r.length:Int):=by omega
          obtain ⟨z,hz⟩ : ∃z,z=r[j]:=⟨_,rfl⟩
          have hcz:=hE2.cell (HSr.out.cell j (I z) (by rw [hz];simp [ss,hjl]));obtain rfl:=HSr.out.addr (by simp;omega);have hsm:=hid (Kad (z:=z) (w:=Y) (Hrb.out z (by rw [hz];exact List.getElem_mem hjl)) (HL.out.ext (hE.trans hE2)));have Hjl:=hid (show (r.take j).length=j by rw [List.length_take];omega);have Hsj:=hid (show r.take (j+1)=r.take j++[z] by rw [List.take_succ_eq_append_getElem hjl,hz]);have Hzz:=hid hz;have hXY:=hE2.size
          cases hgz:grt z
          · have hzb : -1000000000 <= z /\ z <= 1000000000 := by
              unfold grt at hgz;have:=of_decide_eq_false hgz;omega
            have hin:KcD z=true:=decide_eq_true (by omega);rw [hin,if_pos rfl] at hsm;obtain ⟨hy1,hy2⟩:=hzb;have Hgz:=hid hgz;clear hin hgz hz
            go_wp2_with (first
              | (go_at_call 74;refine hsm.out.mono ?_;rintro e W ⟨rfl,hW⟩;have hYW:=hW.size)
              | (at_builtin;refine Y9 rfl _ _ 38 Tryz.underlying38 rfl rfl ((hO.out.ext hW).ext ((Ext.refl _).alloc _)) rfl (b:=W.heap.size) (z:=z) (by go_simp) (by rw [Hjl.out];omega) (by simp;omega) ?_;intro gg cap2 w8 hO8 hB8 hG8;rw [Hjl.out] at hO8 ⊢;rw [<-Hsj.out] at hO8))
            have hE8:Ext X w8:=Below.trans ((hE2.trans hW).alloc (.cells #[.int .i64 z] 3)) hB8;have HO8:=hid hO8;clear hG8 hB8 hO8;go_wp2_with fail;go_roundw
            case rel=>exact ⟨j+1,by omega,by go_num,HO8,hid (λt h ht=>by
              by_cases e:t=j
              · subst e;rw [<-Hzz.out];exact Hgz.out
              · exact Hz.out t h (by omega)),hE8⟩
            case measure=>simp [intOf]<;>omega
          · have Hno:=hid (Ki9 hlt (by rw [<-Hri.out];exact KfG hjl (by rw [<-hz];exact hgz)))
            have hzb:1000000000<z\/z < -1000000000:=by
              unfold grt at hgz;exact of_decide_eq_true hgz
            clear hgz hz
            have hfin : ∀W,Ext w W->KfW w M (.returned (.tuple #[.slice none 0 0,.int .i64 4])) W:=λW hW=>by
              unfold KfW;rw [if_neg (by rw [Hno.out];decide)];exact ⟨rfl,hW⟩
            have Hfin:=hid hfin;clear hfin
            cases hin:KcD z
            · rw [hin,if_neg (by decide)] at hsm
              clear hin hzb
              go_wp2_with (first
                | (go_at_call 74;refine hsm.out.mono ?_;rintro e W ⟨rfl,hW⟩))
              go_ret2;exact Hfin.out _ ((hE.trans hE2).trans hW)
            · rw [hin,if_pos rfl] at hsm
              clear hin
              rcases hzb with hzb | hzb
              · go_wp2_with (first
                  | (go_at_call 74;refine hsm.out.mono ?_;rintro e W ⟨rfl,hW⟩))
                go_ret2;exact Hfin.out _ ((hE.trans hE2).trans hW)
              · have hzc:z<=1000000000:=by omega
                go_wp2_with (first
                  | (go_at_call 74;refine hsm.out.mono ?_;rintro e W ⟨rfl,hW⟩))
                go_ret2;exact Hfin.out _ ((hE.trans hE2).trans hW)
        · have hje:j=r.length:=by omega
          have htk:r.take j=r:=List.take_of_length_le (by omega);rw [htk] at hO;have Hsb:=hid (Kce (l:=r) (λt ht=>Hz.out t ht (by omega)))
          obtain ⟨xa,xl,xk,hxv⟩ : ∃xa xl xk,u7 = .slice xa xl xk:=by
            rcases hO.out.2 with ⟨rfl,h1⟩ | ⟨g,cap,cur,rfl,hb,hg,hn,hm,hs,ht⟩
            · exact ⟨_,_,_,rfl⟩
            · exact ⟨_,_,_,rfl⟩
          subst hxv;have hXY:=hE2.size;clear htk Hz;go_wp2_with (at_builtin;refine KfX rfl _ _ rfl (B:=w.heap.size) rfl ((hV.out.ext hE2).ext ((Ext.refl _).alloc _)) rfl (b:=Y.heap.size) (rv := .slice xa xl xk) (r:=r) (by go_simp) ((hO.out.mono hXw).ext ((Ext.refl _).alloc _)) (by rw [Hil.out];omega) (by simp;omega) ?_;intro gg cap2 w8 hO8 hB8 hG8;rw [Hil.out,<-Hsn.out] at hO8;rw [Hil.out])
          have hE8:Ext w w8:=Below.trans ((hE.trans hE2).alloc (.cells #[.slice xa xl xk] 38)) hB8;have HO8:=hid hO8;clear hG8 hB8 hO8;go_wp2_with fail;go_roundw
          case rel=>exact ⟨i+1,by omega,by go_num,HO8,hid (λt h ht=>by
            by_cases e:t=i
            · subst e;rw [<-Hri.out];exact Hsb.out
            · exact Hs.out t h (by omega)),hE8⟩
          case measure=>simp [intOf]<;>omega
    · have hie:i=M.length:=by omega
      subst hie;go_wp2_with fail;go_ret2;have hsm:Xq M=true:=Kja (λj hj=>Hs.out j hj hj);refine ⟨?_,hE⟩;rw [if_pos hsm];have:=hV.out;rw [List.take_length] at this;exact ⟨_,rfl,this⟩
end
end Go.Proofs.YtdmaofimeknkbaaGreatDoor
