/- Part 26 of the proof of the claim: contracts of the functions that it reaches, and plain laws; no condition. -/
import Derived.Test.YtdmaofimeknkbaaGreatDoorQ25
import Derived.Test.YtdmaofimeknkbaaGreatDoorQ17
import Derived.Test.YtdmaofimeknkbaaGreatDoorQ19
import Derived.Test.YtdmaofimeknkbaaGreatDoorQ11
import Derived.BigQuiet
import Derived.Test.YtdmaofimeknkbaaGreatDoorQ13
set_option maxRecDepth 100000
set_option maxHeartbeats 20000000
namespace Go.Proofs.YtdmaofimeknkbaaGreatDoor
section
open Go.RowKit Go.Sort
open Lib (hid)
def bad (M:Mx) (i k:Nat):Bool:=decide (eM M k (pv (M.getD i []))<0)||decide (eM M i (pv (M.getD i []))<=eM M k (pv (M.getD i [])))
def bef (M:Mx) (i:Nat):Int:=if i=0 then -1 else pvI (M.getD (i-1) [])
def JD (M:Mx) (i:Nat):Bool:=decide (bef M i<pvI (M.getD i []))&&decide (0<=eM M i (pv (M.getD i []))) && !(JJ (bad M i) i)
def isF (M:Mx):Bool := !(JJ (λi => !JD M i) M.length)
theorem KjR {M:Mx} (h : ∀i,i<M.length->JD M i=true):isF M=true:=by
 unfold isF;rw [Ka5 (λi hi=>by rw [h i hi];rfl)];rfl
theorem Kp0 {M:Mx} {i:Nat} (hi:i<M.length) (h:JD M i=false):isF M=false:=by
 unfold isF;rw [JK.2 ⟨i,hi,by rw [h];rfl⟩];rfl
theorem KpH (M:Mx) (i:Nat) : -1<=bef M i:=by
 unfold bef pvI;split
 ·omega
 ·split<;>omega
theorem Kll {M:Mx} {i:Nat} (h:pvI (M.getD i [])<=bef M i):JD M i=false:=by
 unfold JD;rw [decide_eq_false (by omega)];rfl
theorem Klm {M:Mx} {i:Nat} (h:eM M i (pv (M.getD i []))<0):JD M i=false:=by
 unfold JD;rw [decide_eq_false (p:=0<=_) (by omega),Bool.and_false];rfl
theorem Kln {M:Mx} {i:Nat} (h:JJ (bad M i) i=true):JD M i=false:=by
 unfold JD;rw [h];simp
theorem Kfz {M:Mx} {i:Nat} (h1:bef M i<pvI (M.getD i [])) (h2:0<=eM M i (pv (M.getD i []))) (h3:JJ (bad M i) i=false):JD M i=true:=by
 unfold JD;rw [decide_eq_true h1,decide_eq_true h2,h3];rfl
theorem KiH {w:World} {v:Value} {M:Mx} {n:Nat} (hM:KJ w v M) (hR:Ku n M) (hl:M.length<=1000000) (hn:n<=1000000) :
  Calls Tryz.prog 131 #[v] w λe w'=>e = .returned (.bool (isF M))/\Ext w w':=by
 obtain ⟨sa,gb,go,cap,vs,rfl,hcap,hvl,hS,hr⟩:=hM;have HS:=hid hS;have HV:=hid hvl;have HR:=hid hr;have HRt:=hid hR;clear hS hvl hr hR
 go_enter Tryz.func131,Tryz.ntmps131
 go_wp2_with fail
 go_loopw [3,9] (λbe idx wr => ∃i:Nat,i<=M.length/\idx = .int .i64 i/\be = .int .i64 (bef M i)/\Hid (∀j,j<i->JD M j=true)/\Ext w wr) (λ_ idx _=>M.length-(intOf idx).toNat)
 case atStart=>exact ⟨0,by omega,by go_num,by unfold bef;rw [if_pos rfl],hid (λj h=>by omega),Ext.refl _⟩
 case round =>
  obtain ⟨i,hi,rfl,rfl,Hp,hE⟩:=hrel;generalize wr=X at *
  by_cases hlt:i<M.length
  ·have hii:(i:Int)<(M.length:Int):=by omega
   have hic:(i:Int)<=(cap:Int):=by omega
   obtain rfl:=HS.out.addr (by rw [HV.out];omega);obtain ⟨sr,br,or,cr,hrow,hrc,hSr⟩:=KJ.row HS.out HV.out HR.out hlt;have hrl:M[i].length=n:=HRt.out _ (List.getElem_mem hlt);have hrd:M.getD i []=M[i]:=Ka hlt [];obtain ⟨r,hrr⟩ : ∃r,r=M[i]:=⟨_,rfl⟩
   rw [<-hrr] at hrow hrc hSr hrl hrd;rw [hrl] at hrow hrc;have hrow':=hE.cell hrow;have Hrl:=hid hrl;have Hrd:=hid hrd;have hpc:=hid (λW (hW:Ext w W)=>Klb (w:=W) (v := .slice sr n cr) (r:=r) ⟨sr,br,or,cr,by rw [Hrl.out],by rw [Hrl.out];exact hrc,hSr.ext hW⟩ (by rw [Hrl.out];exact hn));have hb1:=KpH M i;have HSr:=hid hSr;clear hrow hrr hrl hrd hSr;have hEW:=(Ext.refl X).alloc (.cells #[.slice sr n cr] 38);have hfin : ∀W,Ext w W->JD M i=false->(.returned (.bool false):Ending) = .returned (.bool (isF M))/\Ext w W:=λW hW h=>⟨by rw [Kp0 hlt h],hW⟩
   have Hfin:=hid hfin;clear hfin;obtain ⟨be,hbe⟩ : ∃be,be=bef M i:=⟨_,rfl⟩
   rw [<-hbe] at hb1 ⊢;have Hbe:=hid hbe;clear hbe
   by_cases h1:pvI r<=be
   ·have Hno:=hid (Kll (M:=M) (i:=i) (by rw [Hrd.out,<-Hbe.out];exact h1));obtain ⟨q,hq⟩ : ∃q,q=pvI r:=⟨_,rfl⟩
    rw [<-hq] at h1 hpc;clear hq;go_wp2_with fail;refine (hpc.out _ (hE.trans hEW)).mono ?_;rintro e W ⟨rfl,hW⟩;have c5:=hW.cell (show (X.alloc (.cells #[.slice sr n cr] 38)).cell? ⟨X.heap.size,0,none⟩=some (.slice sr n cr) by go_simp);go_wp2_with fail;go_ret;exact Hfin.out _ (((hE.trans hEW).trans hW).alloc _) Hno.out
   ·have hpn:pv r<r.length/\pvI r=(pv r:Int):=by
     unfold pvI at h1 ⊢
     by_cases h:pv r<r.length
     ·exact ⟨h,by rw [if_pos h]⟩
     ·rw [if_neg h] at h1;omega
    rw [hpn.2] at hpc h1;have hpn2:pv r<n:=by have:=hpn.1;rw [Hrl.out] at this;exact this
    have hH1:=hid (show bef M i<pvI (M.getD i []) by rw [Hrd.out,hpn.2,<-Hbe.out];omega);have HpI:=hid hpn.2;have ha:=(HSr.out.ext hE).cell (pv r) (.int .i64 (r.getD (pv r) 0)) (by rw [Ka hpn.1];exact Qg hpn.1);obtain rfl:=HSr.out.addr (by rw [Kq];omega);obtain ⟨p,hp⟩ : ∃p,p=pv r:=⟨_,rfl⟩
    obtain ⟨a,hae⟩ : ∃a,a=r.getD p 0:=⟨_,rfl⟩
    have heM:eM M i (pv (M.getD i []))=a:=by rw [Hrd.out,hae,hp];unfold eM;rw [Hrd.out]
    rw [<-hp] at hpc h1 hpn2 ha HpI;rw [<-hae] at ha;have Hp1:=hid hp;have Hae:=hid hae;have HeM:=hid heM;have hpi:(p:Int)<(n:Int):=by omega
    have h1b:be<(p:Int):=by omega
    clear hp hae heM hpn h1
    by_cases h2:a<0
    ·have Hno:=hid (Klm (M:=M) (i:=i) (by rw [HeM.out];exact h2));go_wp2_with fail;refine (hpc.out _ (hE.trans hEW)).mono ?_;rintro e W ⟨rfl,hW⟩;have c5:=hW.cell (show (X.alloc (.cells #[.slice (some ⟨br,or,none⟩) n cr] 38)).cell? ⟨X.heap.size,0,none⟩=some (.slice (some ⟨br,or,none⟩) n cr) by go_simp);have c6:=hW.cell (hEW.cell ha);have l6:=World.block_lt_of_cell? _ _ c6;have l5:=World.block_lt_of_cell? _ _ c5;go_wp2_with fail;go_ret;exact Hfin.out _ (((hE.trans hEW).trans hW).alloc _) Hno.out
    ·have h20:0<=a:=by omega
     clear h2;go_wp2_with fail;refine (hpc.out _ (hE.trans hEW)).mono ?_;rintro e W ⟨rfl,hW⟩;have c5:=hW.cell (show (X.alloc (.cells #[.slice (some ⟨br,or,none⟩) n cr] 38)).cell? ⟨X.heap.size,0,none⟩=some (.slice (some ⟨br,or,none⟩) n cr) by go_simp);have c6:=hW.cell (hEW.cell ha);have l6:=World.block_lt_of_cell? _ _ c6;have l5:=World.block_lt_of_cell? _ _ c5;have hXW:X.heap.size<W.heap.size:=by have:=hW.size;simp at this;omega
     have hE3:=((hE.trans hEW).trans hW).alloc (.cells #[.int .i64 (p:Int)] 3);have d5:=((Ext.refl W).alloc (.cells #[.int .i64 (p:Int)] 3)).cell c5;have d6:=show (W.alloc (.cells #[.int .i64 (p:Int)] 3)).cell? ⟨W.heap.size,0,none⟩=some (.int .i64 (p:Int)) by go_simp
     have hcon:=KcX (cap:=cap) (c1 := .pointer (some ⟨W.heap.size,0,none⟩)) (c2 := .pointer (some ⟨X.heap.size,0,none⟩)) (p:=bad M i) (vs:=vs.take i) ((HS.out.ext hE3).take i) (by rw [List.length_take,HV.out];omega) (λk hk W2 hW2=>by
      have hki:k<i:=by rw [List.length_take] at hk;omega
      have hkM:k<M.length:=by omega
      obtain ⟨sk,bk,ok,ck,hrk,hck,hSk⟩:=KJ.row HS.out HV.out HR.out hkM
      have e1:(vs.take i)[k] = .slice sk n ck:=by
       rw [List.getElem_take];have:=HS.out.cell k _ (List.getElem?_eq_getElem (by rw [HV.out];exact hkM));rw [this] at hrk;rw [Option.some.inj hrk,HRt.out _ (List.getElem_mem hkM)]
      rw [e1];have:=Khi (w:=W2) (cap:=ck) (p:=p) (bp:=W.heap.size) (br:=X.heap.size) ((hSk.ext hE3).ext hW2) ((HSr.out.ext hE3).ext hW2) (HRt.out _ (List.getElem_mem hkM)) Hrl.out hn hpn2 (hW2.cell d6) (hW2.cell d5)
      have e2:bad M i k=(decide (M[k].getD p 0<0)||decide (r.getD p 0<=M[k].getD p 0)):=by
       unfold bad eM;rw [Hrd.out,<-Hp1.out,Ka hkM []]
      rw [e2];exact this)
     rw [List.length_take,HV.out,Nat.min_eq_left (by omega)] at hcon;have Hcon:=hid hcon;clear hcon
     cases hany:JJ (bad M i) i
     ·rw [hany] at Hcon;have Hok:=hid (Kfz hH1.out (by rw [HeM.out];exact h20) hany);clear hany;go_wp2_with fail;refine Hcon.out.mono ?_;rintro e W2 ⟨rfl,hW2⟩;have d7:=hW2.cell d6;go_wp2_with fail;go_roundw
      case rel=>exact ⟨i+1,by omega,by go_num,by unfold bef;rw [if_neg (by omega),Nat.add_sub_cancel,Hrd.out,HpI.out],hid (λj hj=>by
       by_cases e:j=i
       ·subst e;exact Hok.out
       ·exact Hp.out j (by omega)),hE3.trans hW2⟩
      case measure=>simp [intOf]<;>omega
     ·rw [hany] at Hcon;have Hno:=hid (Kln hany);clear hany;go_wp2_with fail;refine Hcon.out.mono ?_;rintro e W2 ⟨rfl,hW2⟩;go_wp2_with fail;go_ret;exact Hfin.out _ (hE3.trans hW2) Hno.out
  ·have Hyes:=hid (KjR (M:=M) (λj hj=>Hp.out j (by omega)));go_wp2_with fail;go_ret;exact ⟨by rw [Hyes.out];rfl,hE⟩
theorem Kot {n:Nat} {ps:List Nat} {M:Mx} (h:IsH n ps M):isF M=true:=by
 have e:=KiI h;subst e;have hp : ∀i,i<M.length->(M.map pv).getD i 0=pv (M.getD i []):=λi hi=>Yj pv M i hi 0 []
 have hlen : ∀i,i<M.length->(M.getD i []).length=n:=λi hi=>by rw [Ka hi];exact h.rect _ (List.getElem_mem hi)
 have hI : ∀i,i<M.length->pvI (M.getD i [])=(pv (M.getD i []):Int):=λi hi=>by
  have:=h.lt i hi;rw [hp i hi] at this;unfold pvI;rw [if_pos (by rw [hlen i hi];exact this)]
 refine KjR λi hi=>Kfz ?_ ?_ (Ka5 λk hk => ?_)
 ·unfold bef;rw [hI i hi];split
  ·omega
  ·rw [hI (i-1) (by omega)];have:=h.inc (i-1) i (by omega) hi;rw [hp i hi,hp (i-1) (by omega)] at this;omega
 ·have:=h.pos i hi;rw [hp i hi] at this;omega
 ·have:=h.red k i hk hi;rw [hp i hi] at this;unfold bad;simp only [Bool.or_eq_false_iff,decide_eq_false_iff_not];omega
def KiG (M:Mx):Bool:=if Qr M=0 then isF M else false
theorem Kij {w:World} {v:Value} {M:Mx} (hM:KJ w v M) :
  Calls Tryz.prog 102 #[v] w λe w'=>e = .returned (.tuple #[.bool (KiG M),.int .i64 (Qr M)])/\Ext w w':=by
 have hck:=hid (Xf hM);obtain ⟨c,hc⟩ : ∃c,c=Qr M:=⟨_,rfl⟩
 by_cases h0:c=0
 ·have hc0:Qr M=0:=by omega
  obtain ⟨h1,h2,h3,_⟩:=Kal hc0;have hif:=hid (λW (hW:Ext w W)=>KiH (hM.ext hW) h3 (by omega) (by omega));have hE:KiG M=isF M:=by unfold KiG;rw [if_pos hc0]
  rw [hE,hc0];rw [hc0] at hck;clear hM hc h0 h1 h2 h3 hE hc0 c
  go_enter Tryz.func102,Tryz.ntmps102
  go_wp2_with fail;refine hck.out.mono ?_;rintro e w1 ⟨rfl,hE1⟩;go_wp2_with fail;refine (hif.out _ hE1).mono ?_;rintro e w2 ⟨rfl,hE2⟩;go_wp2_with fail;go_ret2;exact ⟨rfl,hE1.trans hE2⟩
 ·have hE:KiG M=false:=by unfold KiG;rw [if_neg (by omega)]
  rw [hE];rw [<-hc] at hck ⊢;have hcb:(c==0)=false:=beq_eq_false_iff_ne.2 h0;have hcb2:(c != 0)=true:=by simp [bne,hcb]
  clear hM hc hE
  go_enter Tryz.func102,Tryz.ntmps102
  go_wp2_with fail;refine hck.out.mono ?_;rintro e w1 ⟨rfl,hE1⟩;go_wp2_with fail;go_ret2;exact ⟨rfl,hE1⟩
theorem Kbl {w:World} {v:Value} {F:Mx} {n:Nat} (hM:KJ w v F) (hF : ∀r∈F,QW r=0/\r.length=n) (hn:n<=12) (hl:F.length<=12) :
  Calls Tryz.prog 55 #[.int .i64 n,v] w λe w'=>e = .returned (.int .i64 0)/\Ext w w':=by
 have hck:=hid (KgB hM hF (by omega));obtain ⟨sa,gb,go,cap,vs,rfl,hcap,hvl,hS,hr⟩:=hM;obtain ⟨L,hL⟩ : ∃L,L=F.length:=⟨_,rfl⟩
 rw [<-hL] at hck hl hcap ⊢;have h1 : ¬(n:Int)<0:=by omega
 have h2 : ¬(n:Int)>12:=by omega
 have h3 : ¬(L:Int)>12:=by omega
 clear hS hr hvl hF hL
 go_enter Tryz.func55,Tryz.ntmps55
 go_wp2_with fail;refine hck.out.mono ?_;rintro e w1 ⟨rfl,hE1⟩;go_wp2_with fail;go_ret;exact ⟨rfl,hE1⟩
theorem KgN {n:Nat} {ps:List Nat} {K:Mx} (hI:IsH n ps K) (hn:n<=12) (hl:K.length<=12) (hs : ∀r∈K,∀z∈r,-1000000000<=z/\z<=1000000000):Qr K=0 /\ ∀r∈K,QW r=0/\r.length=n:=by
 have hg : ∀r∈K,r.any grt=false:=λr hr=>by
  cases h:r.any grt
  ·rfl
  ·obtain ⟨z,hz,hg⟩:=List.any_eq_true.1 h;have:=hs r hr z hz;unfold grt at hg;have:=of_decide_eq_true hg;omega
 refine ⟨?_,λr hr=>⟨?_,hI.rect r hr⟩⟩
 ·unfold Qr;rw [if_neg (by omega)];refine Kbb _ _ λj hj => ?_
  have hj':=hI.rect _ (List.getElem_mem hj);have h0:(K.getD 0 []).length=n:=by rw [Ka (by omega)];exact hI.rect _ (List.getElem_mem _)
  unfold XN;rw [if_neg (by omega),if_neg (by omega),hg _ (List.getElem_mem hj)];rfl
 ·unfold QW;have:=hI.rect r hr;rw [if_neg (by omega),hg r hr];rfl
theorem Kos {n:Nat} {ps:List Nat} {K:Mx} (hI:IsH n ps K) (hc:Qr K=0):KiG K=true:=by
 unfold KiG;rw [if_pos hc];exact Kot hI
theorem Khq {w:World} {v:Value} {K:Mx} {n:Nat} {ps:List Nat} (hM:KJ w v K) (hI:IsH n ps K) (hn:n<=12) (hl:K.length<=12) (hs : ∀r∈K,∀z∈r,-1000000000<=z/\z<=1000000000) :
  Calls Tryz.prog 59 #[KdQ n v] w λe w'=>e = .returned (.int .i64 0)/\Ext w w':=by
 obtain ⟨hc,hrow⟩:=KgN hI hn hl hs;have hck:=hid (λW (hW:Ext w W)=>Kbl (hM.ext hW) hrow hn hl);have hif:=λW (hW:Ext w W)=>Kij (hM.ext hW)
 rw [Kos hI hc,hc] at hif;have Hif:=hid hif;have hX:Ext w (w.alloc (.cells #[.int .i64 n,v] 81)):=(Ext.refl w).alloc _;have x1:(w.alloc (.cells #[.int .i64 n,v] 81)).cell? ⟨w.heap.size,1,none⟩=some v:=by go_simp
 obtain ⟨sa,gb,go,cap,vs,rfl,_⟩:=hM;clear hrow hc hif hs hI
 go_enter Tryz.func59,Tryz.ntmps59
 go_wp2_with fail;refine (hck.out _ hX).mono ?_;rintro e w1 ⟨rfl,hE1⟩;have x2:=hE1.cell x1;have hX1:=hX.trans hE1;clear x1 hX hE1;go_wp2_with fail;refine (Hif.out _ hX1).mono ?_;rintro e w2 ⟨rfl,hE2⟩;have hX2:=hX1.trans hE2;go_wp2_with fail;go_ret;exact ⟨rfl,hX2⟩
theorem Kda {n:Nat} {ps:List Nat} {F:Mx} (h:IsH n ps F):F.length<=n:=by
 have hge : ∀i,i<F.length->i<=ps.getD i 0:=by
  intro i
  induction i with
  | zero=>intro _;omega
  | succ i ih =>
   intro hi;have:=ih (by omega);have:=h.inc i (i+1) (by omega) hi;omega
 rcases Nat.eq_zero_or_pos F.length with h0 | h0
 ·omega
 ·have h1:=hge (F.length-1) (by omega);have h2:=h.lt (F.length-1) (by omega);omega
def SmK (K:Mx):Prop := ∀r∈K,∀z∈r,-1000000000<=z/\z<=1000000000
theorem SmK.small {K:Mx} (h:SmK K) : ∀r∈K,QK r=true:=λr hr=>Kce (λt ht=>by
 have:=h r hr _ (List.getElem_mem ht);unfold grt
 exact decide_eq_false (by omega))
theorem SmK.nd {K:Mx} (h:SmK K) : ∀r∈K,∀z∈r,nd z<=LIM:=λr hr z hz=>by
 have:=h r hr z hz
 have h2:z.natAbs<2^30:=by
  have e:(2:Nat)^30=1073741824:=by decide
  omega
 have:=Kv h2;have e:LIM=1000000000000:=rfl;omega
def Kc1 (w:World) (n:Nat) (P:Mx->Prop) (e:Ending) (w':World):Prop := ∃v' K,e = .returned (.tuple #[KdQ n v',.int .i64 0])/\Qk w.heap.size w' v' K/\P K/\Ext w w'
theorem Qk.slice {B:Nat} {w:World} {v:Value} {F:Mx} (h:Qk B w v F) : ∃a l k,v = .slice a l k:=by
 obtain ⟨vs0,_,h2,_⟩:=h
 rcases h2.2 with ⟨rfl,_⟩ | ⟨g,cap,cur,rfl,_⟩
 ·exact ⟨_,_,_,rfl⟩
 ·exact ⟨_,_,_,rfl⟩
theorem KlU {w:World} {v:Value} {F:Mx} {n:Nat} {ps:List Nat} (hM:KJ w v F) (hI:IsH n ps F) (h0:0<n) (hn:n<=4) (hs:SmK F) (hk : ∀K,KaO n (KF F) K->SmK K) (hL:Laid w) :
  Calls Tryz.prog 33 #[KdQ n v] w (Kc1 w n (KaO n (KF F))):=by
 have hlen:=Kda hI;have hck:=hid (λW (hW:Ext w W)=>Khq (hM.ext hW) hI (by omega) (by omega) hs);have hlo:=hid (λW (hW:Ext w W)=>KcF (hM.ext hW) hI.rect h0 (by omega) (by omega) (λr hr z hz=>by have:=hs r hr z hz;unfold I64;omega) (hL.ext hW));have hk1:=hid (λW v1 (hW:Ext w W) (h:KaF W v1 F)=>Khs h hI.rect h0 hn (by omega) hs (hL.ext hW))
 have hsh:=hid (λW v1 K (hW:Ext w W) (h:KaF W v1 K) (hK:KaO n (KF F) K)=>by
  obtain ⟨qs,hq⟩:=hK.1;have:=Kda hq
  exact KdX (n:=n) h hq.rect (by omega) (by omega) (hk K hK).small (hk K hK).nd (hL.ext hW))
 obtain ⟨sa,gb,go,cap,vs,rfl,_⟩:=hM;obtain ⟨L,hLe⟩ : ∃L,L=F.length:=⟨_,rfl⟩
 rw [<-hLe] at hck hlo ⊢;have hX:Ext w ((w.alloc (.cells #[.int .i64 n,.slice sa L cap] 81)).alloc (.cells #[.int .i64 0,.slice none 0 0] 81)):=((Ext.refl w).alloc _).alloc _;have x0:((w.alloc (.cells #[.int .i64 n,.slice sa L cap] 81)).alloc (.cells #[.int .i64 0,.slice none 0 0] 81)).cell? ⟨w.heap.size,0,none⟩=some (.int .i64 n):=by go_simp
 have x1:((w.alloc (.cells #[.int .i64 n,.slice sa L cap] 81)).alloc (.cells #[.int .i64 0,.slice none 0 0] 81)).cell? ⟨w.heap.size,1,none⟩=some (.slice sa L cap):=by go_simp
 have HO:=hid (KdP w (.cells #[.int .i64 n,.slice sa L cap] 81) 81 (.int .i64 0) (.slice none 0 0));obtain ⟨bl,hbl⟩ : ∃bl,bl=w.heap.size:=⟨_,rfl⟩
 obtain ⟨b2,hb2⟩ : ∃b2,b2=w.heap.size+1:=⟨_,rfl⟩
 rw [<-hb2] at HO;rw [<-hbl] at x0 x1;have hbs2:w.heap.size<=b2:=by omega
 clear hI hs hL hlen hLe
 go_enter Tryz.func33,Tryz.ntmps33
 go_wp2_with fail;rw [<-hb2,<-hbl];clear hb2 hbl;refine (hck.out _ hX).mono ?_;rintro e X ⟨rfl,hE1⟩;replace x0:=hE1.cell x0;replace x1:=hE1.cell x1;replace HO:=hid (HO.out.ext hE1);replace hX:=hX.trans hE1;clear hE1 hck;go_wp2_with fail;have dd:Ext X X.drew:=(Ext.refl X).drew;refine Ke (S:=λW=>Ext X W) 11 (by kernel_rfl) (by simp) ?_;intro inv;refine tkS (i:=0) (v := .pointer (some ⟨bl,1,none⟩)) rfl dd inv ?_;intro inv;go_simp;refine tkA (i:=1) (v := .slice sa L cap) rfl (.inl ⟨by rfl,λW hW=>by have z0:=hW.cell x1;go_simp⟩) dd inv ?_;intro inv;go_simp;refine tkS (i:=3) (v := .pointer (some ⟨bl,0,none⟩)) rfl dd inv ?_;intro inv;go_simp;refine tkA (i:=4) (v := .int .i64 n) rfl (.inl ⟨by rfl,λW hW=>by have z0:=hW.cell x0;go_simp⟩) dd inv ?_;intro inv;go_simp;refine tkS (i:=6) (v := .pointer (some ⟨bl,0,none⟩)) rfl dd inv ?_;intro inv;go_simp;refine tkA (i:=7) (v := .int .i64 n) rfl (.inl ⟨by rfl,λW hW=>by have z0:=hW.cell x0;go_simp⟩) dd inv ?_;intro inv;go_simp;refine Kf (i:=2) rfl (by kernel_rfl) inv (λinv K0 hK0 => ?_);go_simp;refine (hlo.out _ (hX.trans dd)).mono ?_;rintro e W1 ⟨v1,ad1,rfl,hg1,hF1⟩;have e1:=dd.trans hF1;have HG1:=hid hg1.gridR;refine hK0 _ _ e1 ?_;clear hK0 hg1;refine Kf (i:=5) rfl (by kernel_rfl) inv (λinv K1 hK1 => ?_);go_simp;refine (hk1.out _ _ (hX.trans e1) HG1.out).mono ?_;rintro e W2 ⟨v2,KK,rfl,hg2,hKer,hF2⟩;have e2:=e1.trans hF2;have HG2:=hid hg2;have HKer:=hid hKer;refine hK1 _ _ e2 ?_
 clear hK1 hg2 hKer;refine Kf (i:=8) rfl (by kernel_rfl) inv (λinv K4 hK4 => ?_);go_simp;refine (hsh.out _ _ _ (hX.trans e2) HG2.out HKer.out).mono ?_;rintro e W5 ⟨v5,rfl,hm5,hF5⟩;have e5:=e2.trans hF5;obtain ⟨xa,xl,xk,rfl⟩:=hm5.slice;have Hm5:=hid (hm5.mono (hX.trans e2).size);refine hK4 _ _ e5 ?_;clear hK4 hm5;refine tkS (i:=9) (v:=KdQ n (.slice xa xl xk)) rfl e5 inv ?_;intro inv;go_simp;refine tkS (i:=10) (v := .int .i64 0) rfl e5 inv ?_;intro inv;go_simp;refine Ki (by kernel_rfl) ?_;replace HO:=hid (HO.out.ext e5);replace hX:=hX.trans e5;obtain ⟨q0,q1,f0,f1,r0,r1,hF,hG⟩:=Kgf hX hbs2 HO.out (.int .i64 n) (.slice xa xl xk);have HMf:=hid (Zn Hm5.out HO.out (by decide) (by decide) hG);have Hres:=hid (show Kc1 w n (KaO n (KF F)) (.returned (.tuple #[KdQ n (.slice xa xl xk),.int .i64 0])) _ from ⟨_,KK,rfl,HMf.out,HKer.out,hF.out⟩);clear hG HMf;go_wp2_with fail;refine bodyPost_ret (v := .tuple #[KdQ n (.slice xa xl xk),.int .i64 0]) (by simp [results,Tryz.results33,go_sem,r0,r1]) rfl Hres.out
theorem Kn5 : ∀(N n:Fin 5),2*(2*bC N.val 30 n.val+2)+2<LIM:=by decide +kernel
theorem KoF {M:Mx} (h : ∀r∈M,∀z∈r,z.natAbs<2^30):Yr 30 (ln1 M):=λi hi=>by
 have hi':i<M.length:=by simpa using hi
 rw [Ka hi];have:(ln1 M)[i]=(M[i],[]):=by simp [ln1]
 rw [this];exact ⟨λz hz=>h _ (List.getElem_mem hi') z hz,λz hz=>by simp at hz⟩
theorem Khb (n:Nat):Zs n [] []:=Kbg (M:=[]) (ls:=[]) (ps:=[]) (d:=0) (λr h=>by simp at h) (Ops.refl _) ((QF.start []).full rfl (Nat.zero_le n))
theorem KmY {w0 w:World} {v:Value} {M:Mx} {ad:List (Nat×Nat)} {n:Nat} (h:LrX w0.heap.size w v M ad) (hR:Ku n M) (hb : ∀r∈M,∀z∈r,z.natAbs<2^30) (h0:0<n) (hn:n<=4) (hl:M.length<=4) (hL:Laid w0) (hE:Ext w0 w) :
  Calls Tryz.prog 57 #[v,.int .i64 n] w λe w' => ∃v' F,e = .returned v'/\Zs n M F/\KaF w' v' F/\Ext w0 w':=by
 obtain ⟨ga,cap,rfl,hcap,hga⟩:=h.shape
 rcases Nat.eq_zero_or_pos M.length with h00 | h00
 ·obtain rfl:M=[]:=List.length_eq_zero_iff.1 h00;have hnil : ∀(sa:Option Addr) (c:Nat) (W:World),KaF W (.slice sa 0 c) []:=λsa c W=>⟨sa,0,0,c,[],rfl,Nat.zero_le _,rfl,⟨λh=>by simp at h,λi v hv=>by simp at hv⟩,λi hi=>by simp at hi⟩
  rcases h.own.2 with ⟨hv,_⟩ | ⟨g,cap',cur,hv,_⟩
  ·rw [hv];refine Kfl.mono ?_;rintro e W1 ⟨rfl,hE1⟩;exact ⟨_,_,rfl,Khb n,hnil _ _ _,hE.trans hE1⟩
  ·rw [hv];refine KdS.mono ?_;rintro e W1 ⟨rfl,hE1⟩;exact ⟨_,_,rfl,Khb n,hnil _ _ _,hE.trans hE1⟩
 ·obtain ⟨g,rfl⟩:=hga h00;have hG:Lr w0.heap.size w g cap M.length n ad (ln1 M):=⟨by rw [Kcd];exact h,by simp,Kdc hR⟩
  have hbc:=Kn5 ⟨M.length,by omega⟩ ⟨n,by omega⟩;refine (Kfk (w0:=w0) (w:=w) hG h00 h0 (by omega) (by omega) hcap (KoF hb) hbc hL hE).mono ?_;rintro e W1 ⟨d,ps,ad',ls',rfl,hd,hG1,hF,hOp,hAl,hE1⟩;exact ⟨_,_,rfl,Kbg hR hOp hF,hG1.lgsTake h0 hd (by omega),hE1⟩
theorem KqI {w:World} {v:Value} {M:Mx} {n:Nat} (hM:KJ w v M) (hR : ∀r∈M,QW r=0/\r.length=n) (h0:0<n) (hn:n<=4) (hl:M.length<=4) (hs:SmK M) (hk : ∀K,Zs n M K->SmK K) (hL:Laid w) :
  Calls Tryz.prog 32 #[.int .i64 n,v] w (Kc1 w n (Zs n M)):=by
 have hre:Ku n M:=λr hr=>(hR r hr).2
 have hck:=hid (λW (hW:Ext w W)=>Kbl (hM.ext hW) hR (by omega) (by omega));have hlo:=hid (λW (hW:Ext w W)=>KcF (hM.ext hW) hre h0 (by omega) (by omega) (λr hr z hz=>by have:=hs r hr z hz;unfold I64;omega) (hL.ext hW))
 have hfo:=hid (λW W2 v1 ad (hW:Ext w W) (hW2:Ext W W2) (h:LrX W.heap.size W2 v1 M ad)=>KmY h hre (λr hr z hz=>by
  have:=hs r hr z hz;have e:(2:Nat)^30=1073741824:=by decide
  omega) h0 hn hl (hL.ext hW) hW2)
 have hsh:=hid (λW v1 K (hW:Ext w W) (h:KaF W v1 K) (hK:Zs n M K)=>by
  obtain ⟨qs,hq⟩:=hK.1;have:=Kda hq
  exact KdX (n:=n) h hq.rect (by omega) (by omega) (hk K hK).small (hk K hK).nd (hL.ext hW))
 have hX:Ext w (w.alloc (.cells #[.int .i64 0,.slice none 0 0] 81)):=(Ext.refl w).alloc _;have HO:=hid (Kb0 w 81 (.int .i64 0) (.slice none 0 0));obtain ⟨bl,hbl⟩ : ∃bl,bl=w.heap.size:=⟨_,rfl⟩
 have hbs2:w.heap.size<=bl:=by omega
 rw [show Kd 81 w.heap.size (w.alloc (.cells #[.int .i64 0,.slice none 0 0] 81)) w.heap.size 2 [.int .i64 0,.slice none 0 0]=Kd 81 w.heap.size (w.alloc (.cells #[.int .i64 0,.slice none 0 0] 81)) bl 2 [.int .i64 0,.slice none 0 0] by rw [hbl]] at HO;clear hs hL hre hR
 go_enter Tryz.func32,Tryz.ntmps32
 go_wp2_with fail;rw [<-hbl];clear hbl;refine (hck.out _ hX).mono ?_;rintro e X ⟨rfl,hE1⟩;replace HO:=hid (HO.out.ext hE1);replace hX:=hX.trans hE1;clear hE1 hck;go_wp2_with fail;refine (hlo.out _ hX).mono ?_;rintro e W1 ⟨v1,ad1,rfl,hg1,hF1⟩;have hf:=hid (hfo.out _ _ _ _ hX hF1 hg1);clear hg1 hlo;go_wp2_with fail;refine hf.out.mono ?_;rintro e W2 ⟨v2,K,rfl,hK,hg2,hF2⟩;have HK:=hid hK;have hs2:=hid (hsh.out _ _ _ (hX.trans hF2) hg2 hK);clear hK hg2 hsh hf hfo;go_wp2_with fail;refine hs2.out.mono ?_;rintro e W5 ⟨v5,rfl,hm5,hF5⟩;have e5:=hF2.trans hF5;obtain ⟨xa,xl,xk,rfl⟩:=hm5.slice;have Hm5:=hid (hm5.mono (hX.trans hF2).size);clear hm5 hs2;replace HO:=hid (HO.out.ext e5);replace hX:=hX.trans e5;obtain ⟨q0,q1,f0,f1,r0,r1,hF,hG⟩:=Kgf hX hbs2 HO.out (.int .i64 n) (.slice xa xl xk);have HMf:=hid (Zn Hm5.out HO.out (by decide) (by decide) hG);have Hres:=hid (show Kc1 w n (Zs n M) (.returned (.tuple #[KdQ n (.slice xa xl xk),.int .i64 0])) _ from ⟨_,K,rfl,HMf.out,HK.out,hF.out⟩);clear hG HMf;go_wp2_with fail;refine bodyPost_ret (v := .tuple #[KdQ n (.slice xa xl xk),.int .i64 0]) (by simp [results,Tryz.results32,go_sem,r0,r1]) rfl Hres.out
def SmP (n:Int):Prop:=n=2\/n=3\/n=5\/n=7\/n=11\/n=13
theorem KiJ {w:World} {n:Int} (h:SmP n):Calls Tryz.prog 46 #[.int .i64 n] w λe w'=>e = .returned (.bool true)/\Ext w w':=by
  rcases h with rfl | rfl | rfl | rfl | rfl | rfl
  all_goals
    go_enter Tryz.func46,Tryz.ntmps46
    go_wp2_with fail
    go_loopw [3] (λdv wr => ∃d:Nat,2<=d/\d<=4/\dv = .int .i64 d/\Ext w wr) (λdv _=>4-(intOf dv).toNat)
    case atStart=>exact ⟨2,by omega,by omega,by go_num,Ext.refl _⟩
    case round =>
      obtain ⟨d,hd1,hd2,rfl,hE⟩:=hrel;generalize wr=X at *
      rcases (show d=2\/d=3\/d=4 by omega) with rfl | rfl | rfl
      all_goals
        go_wp2_with fail
        first
          | (go_ret
             exact ⟨rfl,hE⟩)
          | (go_roundw
             case rel=>exact ⟨3,by omega,by omega,by go_num,hE⟩
             case measure=>simp [intOf])
          | (go_roundw
             case rel=>exact ⟨4,by omega,by omega,by go_num,hE⟩
             case measure=>simp [intOf])
theorem Kfq {w:World} {v:Value} {p:List Int} (hp:KT w v p) (h0:0<p.length) (h6:p.length<=6) (hP : ∀x∈p,SmP x) (hinc : ∀i (h:i+1<p.length),p[i]'(by omega)<p[i+1]) :
  Calls Tryz.prog 26 #[v] w λe w'=>e = .returned (.int .i64 0)/\Ext w w':=by
 obtain ⟨sa,gb,go,cap,rfl,hc,hS⟩:=hp;obtain ⟨n,hn⟩ : ∃n,n=p.length:=⟨_,rfl⟩
 have HS:=hid hS;have HP:=hid hP;have HI:=hid hinc;obtain rfl:=hS.addr (by simp;omega);rw [<-hn] at h0 h6 hc ⊢;have Hn:=hid hn;have hz : ¬(n:Int)=0:=by omega
 have hz2:((n:Int)==0)=false:=beq_eq_false_iff_ne.2 hz;have h6' : ¬(n:Int)>6:=by omega
 clear hS hP hinc hn
 go_enter Tryz.func26,Tryz.ntmps26
 go_wp2_with fail
 go_loopw [15] (λidx wr => ∃i:Nat,i<=n/\idx = .int .i64 i/\Ext w wr) (λidx _=>n-(intOf idx).toNat)
 case atStart=>exact ⟨0,by omega,by go_num,Ext.refl _⟩
 case round =>
  obtain ⟨i,hi,rfl,hE⟩:=hrel;generalize wr=X at *
  by_cases hlt:i<n
  ·have hii:(i:Int)<(n:Int):=by omega
   have hil:i<p.length:=by rw [<-Hn.out];exact hlt
   obtain ⟨x,hx⟩ : ∃x,x=p[i]:=⟨_,rfl⟩
   have cx:=hE.cell (HS.out.cell i (.int .i64 x) (by rw [hx];exact Qg hil));have hpr:=hid (λW=>KiJ (w:=W) (n:=x) (by rw [hx];exact HP.out _ (List.getElem_mem hil)))
   cases i with
   | zero =>
    simp only [Nat.add_zero] at cx;clear hx;go_wp2_with fail;refine (hpr.out _).mono ?_;rintro e W ⟨rfl,hW⟩;have hEW:=hE.trans hW;go_wp2_with fail;refine ⟨⟨1,by omega,by go_num,hEW⟩,by simp [intOf];omega⟩
   | succ j =>
    obtain ⟨y,hy⟩ : ∃y,y=p[j]'(by omega):=⟨_,rfl⟩
    have cy:=hE.cell (HS.out.cell j (.int .i64 y) (by rw [hy];exact Qg (by omega)));have hxy : ¬x<=y:=by have:=HI.out j hil;rw [<-hx,<-hy] at this;omega
    have hw1:IntKind.i64.wrap (((j+1:Nat):Int)-1)=(j:Int):=by rw [IntWalk.i64_in _ (by omega)];omega
    have hw2:IntKind.i64.wrap ((j:Int)+1-1)=(j:Int):=by rw [IntWalk.i64_in _ (by omega)];omega
    have hj0:((j+1:Nat):Int)>0:=by omega
    have hj1:(0:Int)<(j:Int)+1:=by omega
    have hj2:(j:Int)<(n:Int):=by omega
    clear hx hy hil;go_wp2_with fail;refine (hpr.out _).mono ?_;rintro e W ⟨rfl,hW⟩;replace cx:=hW.cell cx;replace cy:=hW.cell cy;have hEW:=hE.trans hW;go_wp2_with fail;refine ⟨⟨j+1+1,by omega,by go_num,hEW⟩,by simp [intOf];omega⟩
  ·have hie:i=n:=by omega
   subst hie;go_wp2_with fail;go_ret;exact ⟨rfl,hE⟩
end
section
open Go.RowKit Go.Sort Hnf
end
section
open Go.RowKit Go.Sort
open Hnf (V Ko)
def Krp (x v:List Int):Int:=KD (λi=>x.getD i 0*v.getD i 0) x.length
def Krh (M:Mx) (x:List Int):List Int:=M.map (Krp x)
@[simp] theorem KpA (M:Mx) (x:List Int):(Krh M x).length=M.length:=by simp [Krh]
def Xh (r i:Nat):List Int:=(List.replicate r 0).set i 1
@[simp] theorem Jv (r i:Nat):(Xh r i).length=r:=by simp [Xh]
theorem Xt {r i:Nat} (hi:i<r) (k:Nat):(Xh r i).getD k 0=if k=i then 1 else 0:=by
 unfold Xh;rw [List.getD_eq_getElem?_getD,List.getElem?_set]
 by_cases h:k=i
 ·subst h;simp [hi]
 ·rw [if_neg (λe=>h e.symm),if_neg h,List.getElem?_replicate];split<;>rfl
theorem Kh1 (f g:Nat->Int) : ∀n,KD (λi=>f i+g i) n=KD f n+KD g n
 | 0=>rfl
 | n+1=>by simp only [KD];rw [Kh1 f g n];omega
end
end Go.Proofs.YtdmaofimeknkbaaGreatDoor
