/- Part 11 of the proof of the claim: contracts of the functions that it reaches, and plain laws; no condition. -/
import Derived.Test.YtmhfccigejcphaaGreatDoorQ09
import Derived.Test.YtmhfccigejcphaaGreatDoorQ10
import Derived.Deep.RegionHeld3
import Derived.Deep.AppendLies
import Derived.Test.YtmhfccigejcphaaGreatDoorQ08
set_option maxRecDepth 100000
set_option maxHeartbeats 20000000
namespace Go.Proofs.YtmhfccigejcphaaGreatDoor
section
open Go.RowKit Go.Sort
def KQ (w:World) (v:Value) (r:List Int):Prop := ∃sa gb go cap,v = .slice sa r.length cap/\r.length<=cap/\Sl w sa gb go (is r)
def Qb (w:World) (v:Value) (M:Mx):Prop := ∃sa gb go cap vs,v = .slice sa M.length cap/\M.length<=cap/\vs.length=M.length/\Sl w sa gb go vs /\ ∀i (h:i<M.length) (h':i<vs.length),KQ w vs[i] M[i]
theorem KQ.ext {w w':World} {v:Value} {r:List Int} (h:KQ w v r) (he:Ext w w'):KQ w' v r:=by
 obtain ⟨sa,gb,go,cap,e,hc,hs⟩:=h;exact ⟨sa,gb,go,cap,e,hc,hs.ext he⟩
theorem Qb.ext {w w':World} {v:Value} {M:Mx} (h:Qb w v M) (he:Ext w w'):Qb w' v M:=by
 obtain ⟨sa,gb,go,cap,vs,e,hc,hl,hs,hr⟩:=h;exact ⟨sa,gb,go,cap,vs,e,hc,hl,hs.ext he,λi a b=>(hr i a b).ext he⟩
def I64 (z:Int):Prop := -9223372036854775808<=z/\z<=9223372036854775807
theorem Qb.row {w:World} {sa:Option Addr} {gb go:Nat} {vs:List Value} {M:Mx} (hS:Sl w sa gb go vs) (hl:vs.length=M.length) (hr : ∀i (h:i<M.length) (h':i<vs.length),KQ w vs[i] M[i]) {i:Nat} (hi:i<M.length) :
  ∃sa' gb' go' cap',w.cell? ⟨gb,go+i,none⟩=some (.slice sa' M[i].length cap')/\M[i].length<=cap'/\Sl w sa' gb' go' (is M[i]):=by
 have hi':i<vs.length:=by omega
 obtain ⟨sa',gb',go',cap',e,hc,hs⟩:=hr i hi hi';exact ⟨sa',gb',go',cap',by rw [hS.cell i _ (List.getElem?_eq_getElem hi'),e],hc,hs⟩
def xv (n g cap:Nat):Value:=if n=0 then .slice none 0 0 else slv g n cap
theorem Kj3 (g cap:Nat):xv 0 g cap = .slice none 0 0:=rfl
theorem Qn {n:Nat} (h:0<n) (g cap:Nat):xv n g cap=slv g n cap:=by unfold xv;rw [if_neg (by omega)]
theorem K9 {w w':World} {base:Nat} {e:TypeId} {size n:Nat} {v:Value} {xs:List Value} (h:w.ownsRow base e size v n xs) (he:Ext w w'):w'.ownsRow base e size v n xs :=
 World.ownsRow.kept h (Xl he none) (by by_cases hv:v.ownBlock=none;exact .inl hv;exact .inr hv)
theorem Ki0 (n g cap:Nat):(xv n g cap).ownBlock=if n=0 then none else some g:=by
 unfold xv;split<;>rfl
end
section
def IxR (p:Nat->Bool) (n:Nat) (k:Int):Prop:=(k = -1 /\ ∀i,i<n->p i=false) \/ ∃i:Nat,i<n/\k=(i:Int)/\p i=true /\ ∀j,j<i->p j=false
theorem Kc7 (p:Nat->Bool) : ∀n,∃k,IxR p n k
 | 0=>⟨-1,.inl ⟨rfl,λi h=>by omega⟩⟩
 | n+1=>by
  obtain ⟨k,h | ⟨i,hi,e,hp,hj⟩⟩:=Kc7 p n
  ·cases hn:p n
   ·exact ⟨-1,.inl ⟨rfl,λi hi=>by
     by_cases e:i=n
     ·subst e;exact hn
     ·exact h.2 i (by omega)⟩⟩
   ·exact ⟨n,.inr ⟨n,by omega,rfl,hn,h.2⟩⟩
  ·exact ⟨k,.inr ⟨i,by omega,e,hp,hj⟩⟩
theorem Kaz {p:Nat->Bool} {n:Nat} {k:Int} (h:IxR p n k) (hp : ∀i,i<n->p i=false):k = -1:=by
 rcases h with h | ⟨i,hi,_,hpi,_⟩
 ·exact h.1
 ·rw [hp i hi] at hpi;cases hpi
theorem Kay {p:Nat->Bool} {n i:Nat} {k:Int} (h:IxR p n k) (hi:i<n) (hp:p i=true) (hj : ∀j,j<i->p j=false):k=i:=by
 rcases h with h | ⟨t,ht,e,hpt,hjt⟩
 ·rw [h.2 i hi] at hp;cases hp
 ·rcases Nat.lt_trichotomy i t with h | h | h
  ·rw [hjt i h] at hp;cases hp
  ·rw [e,h]
  ·rw [hj t h] at hpt;cases hpt
def KaE (p:Nat->Bool) (n:Nat):Bool:=(List.range n).any p
theorem KaU {p:Nat->Bool} {n:Nat}:KaE p n=true ↔ ∃i,i<n/\p i=true:=by simp [KaE]
theorem KaV {p:Nat->Bool} {n:Nat} (h : ∀i,i<n->p i=false):KaE p n=false:=by
 cases hb:KaE p n
 ·rfl
 ·obtain ⟨i,hi,hp⟩:=KaU.1 hb;rw [h i hi] at hp;cases hp
theorem KfF {p:Nat->Bool} {n:Nat} {k:Int} (h:IxR p n k):decide (0<=k)=KaE p n:=by
 rcases h with ⟨rfl,h⟩ | ⟨i,hi,rfl,hp,_⟩
 ·rw [KaV h];rfl
 ·rw [KaU.2 ⟨i,hi,hp⟩];exact decide_eq_true (by omega)
end
section
open Go.RowKit Go.Sort
open Lib (hid)
theorem KgW {w:World} {sa:Option Addr} {gb go cap:Nat} {vs:List Value} {p:Nat->Bool} {k:Int} (hS:Sl w sa gb go vs) (hl:vs.length<=1000000)
  (hF : ∀i (h:i<vs.length) W,Ext w W->Calls Tryz.prog 239 #[vs[i]] W λe w'=>e = .returned (.bool (p i))/\Ext W w') (hk:IxR p vs.length k) :
  Calls Tryz.prog 163 #[.slice sa vs.length cap,.func (.func 239) #[] #[]] w λe w'=>e = .returned (.int .i64 k)/\Ext w w':=by
 have HF:=hid hF;have HK:=hid hk;have HS:=hid hS;clear hF hk hS
 go_enter Tryz.func163,Tryz.ntmps163
 go_wp2_with fail
 go_loopw [8] (λidx wr => ∃i:Nat,i<=vs.length/\idx = .int .i64 i/\Hid (∀j,j<i->p j=false)/\Ext w wr) (λidx _=>vs.length-(intOf idx).toNat)
 case atStart=>exact ⟨0,by omega,by go_num,hid (λj h=>by omega),Ext.refl _⟩
 case round =>
  obtain ⟨i,hi,rfl,Hp,hE⟩:=hrel;generalize wr=X at *
  by_cases hlt:i<vs.length
  ·have hii:(i:Int)<(vs.length:Int):=by omega
   obtain ⟨u,hu⟩ : ∃u,u=vs[i]:=⟨_,rfl⟩
   have hc:=hE.cell (HS.out.cell i u (by rw [hu];exact List.getElem?_eq_getElem hlt));obtain rfl:=HS.out.addr (by omega);have hf:=HF.out i hlt X hE;rw [<-hu] at hf;have Hf:=hid hf;clear hf hu
   cases hpi:p i
   ·rw [hpi] at Hf;have Hpi:=hid hpi;clear hpi;go_wp2_with fail;refine Hf.out.mono ?_;rintro e W ⟨rfl,hE2⟩;go_wp2_with fail;go_roundw
    case rel=>exact ⟨i+1,by omega,by go_num,hid (λj hj=>by
     by_cases e:j=i
     ·subst e;exact Hpi.out
     ·exact Hp.out j (by omega)),hE.trans hE2⟩
    case measure=>simp [intOf]<;>omega
   ·rw [hpi] at Hf;have Hki:=hid (Kay HK.out hlt hpi Hp.out);clear hpi;go_wp2_with fail;refine Hf.out.mono ?_;rintro e W ⟨rfl,hE2⟩;go_wp2_with fail;go_ret;exact ⟨by rw [Hki.out];rfl,hE.trans hE2⟩
  ·have Hki:=hid (Kaz HK.out (λj hj=>Hp.out j (by omega)));go_wp2_with fail;go_ret;exact ⟨by rw [Hki.out];rfl,hE⟩
theorem Kdm {w:World} {sa:Option Addr} {gb go cap:Nat} {vs:List Value} {p:Nat->Bool} (hS:Sl w sa gb go vs) (hl:vs.length<=1000000)
  (hF : ∀i (h:i<vs.length) W,Ext w W->Calls Tryz.prog 239 #[vs[i]] W λe w'=>e = .returned (.bool (p i))/\Ext W w') :
  Calls Tryz.prog 107 #[.slice sa vs.length cap,.func (.func 239) #[] #[]] w λe w'=>e = .returned (.bool (KaE p vs.length))/\Ext w w':=by
 obtain ⟨k,hk⟩:=Kc7 p vs.length;have Hge:=hid (KfF hk);have HI:=hid (KgW (cap:=cap) hS hl hF hk);clear hS hF hk
 go_enter Tryz.func107,Tryz.ntmps107
 go_wp2_with fail;refine HI.out.mono ?_;rintro e W ⟨rfl,hE⟩;go_wp2_with fail;go_ret;exact ⟨by rw [<-Hge.out];rfl,hE⟩
theorem Kdx {w:World} {sa:Option Addr} {gb go cap:Nat} {vs:List Value} {p:Nat->Bool} {k:Int} (hS:Sl w sa gb go vs) (hl:vs.length<=1000000)
  (hF : ∀i (h:i<vs.length) W,Ext w W->Calls Tryz.prog 108 #[vs[i]] W λe w'=>e = .returned (.bool (p i))/\Ext W w') (hk:IxR p vs.length k) :
  Calls Tryz.prog 163 #[.slice sa vs.length cap,.func (.func 108) #[] #[]] w λe w'=>e = .returned (.int .i64 k)/\Ext w w':=by
 have HF:=hid hF;have HK:=hid hk;have HS:=hid hS;clear hF hk hS
 go_enter Tryz.func163,Tryz.ntmps163
 go_wp2_with fail
 go_loopw [8] (λidx wr => ∃i:Nat,i<=vs.length/\idx = .int .i64 i/\Hid (∀j,j<i->p j=false)/\Ext w wr) (λidx _=>vs.length-(intOf idx).toNat)
 case atStart=>exact ⟨0,by omega,by go_num,hid (λj h=>by omega),Ext.refl _⟩
 case round =>
  obtain ⟨i,hi,rfl,Hp,hE⟩:=hrel;generalize wr=X at *
  by_cases hlt:i<vs.length
  ·have hii:(i:Int)<(vs.length:Int):=by omega
   obtain ⟨u,hu⟩ : ∃u,u=vs[i]:=⟨_,rfl⟩
   have hc:=hE.cell (HS.out.cell i u (by rw [hu];exact List.getElem?_eq_getElem hlt));obtain rfl:=HS.out.addr (by omega);have hf:=HF.out i hlt X hE;rw [<-hu] at hf;have Hf:=hid hf;clear hf hu
   cases hpi:p i
   ·rw [hpi] at Hf;have Hpi:=hid hpi;clear hpi;go_wp2_with fail;refine Hf.out.mono ?_;rintro e W ⟨rfl,hE2⟩;go_wp2_with fail;go_roundw
    case rel=>exact ⟨i+1,by omega,by go_num,hid (λj hj=>by
     by_cases e:j=i
     ·subst e;exact Hpi.out
     ·exact Hp.out j (by omega)),hE.trans hE2⟩
    case measure=>simp [intOf]<;>omega
   ·rw [hpi] at Hf;have Hki:=hid (Kay HK.out hlt hpi Hp.out);clear hpi;go_wp2_with fail;refine Hf.out.mono ?_;rintro e W ⟨rfl,hE2⟩;go_wp2_with fail;go_ret;exact ⟨by rw [Hki.out];rfl,hE.trans hE2⟩
  ·have Hki:=hid (Kaz HK.out (λj hj=>Hp.out j (by omega)));go_wp2_with fail;go_ret;exact ⟨by rw [Hki.out];rfl,hE⟩
theorem Ka1 {w:World} {sa:Option Addr} {gb go cap:Nat} {vs:List Value} {p:Nat->Bool} (hS:Sl w sa gb go vs) (hl:vs.length<=1000000)
  (hF : ∀i (h:i<vs.length) W,Ext w W->Calls Tryz.prog 108 #[vs[i]] W λe w'=>e = .returned (.bool (p i))/\Ext W w') :
  Calls Tryz.prog 107 #[.slice sa vs.length cap,.func (.func 108) #[] #[]] w λe w'=>e = .returned (.bool (KaE p vs.length))/\Ext w w':=by
 obtain ⟨k,hk⟩:=Kc7 p vs.length;have Hge:=hid (KfF hk);have HI:=hid (Kdx (cap:=cap) hS hl hF hk);clear hS hF hk
 go_enter Tryz.func107,Tryz.ntmps107
 go_wp2_with fail;refine HI.out.mono ?_;rintro e W ⟨rfl,hE⟩;go_wp2_with fail;go_ret;exact ⟨by rw [<-Hge.out];rfl,hE⟩
def grt (z:Int):Bool:=decide (1000000000<z\/z < -1000000000)
theorem Kky (z:Int) (w:World):Calls Tryz.prog 239 #[.int .i64 z] w λe w'=>e = .returned (.bool (grt z))/\Ext w w':=by
 by_cases h1:1000000000<z
 ·have hg:grt z=true:=decide_eq_true (.inl h1);rw [hg];clear hg
  go_enter Tryz.func239,Tryz.ntmps239
  go_wp2
  go_ret;exact ⟨rfl,Ext.refl _⟩
 ·have h2:z<=1000000000:=by omega
  by_cases h3:z < -1000000000
  ·have hg:grt z=true:=decide_eq_true (.inr h3);rw [hg];clear hg
   go_enter Tryz.func239,Tryz.ntmps239
   go_wp2
   go_ret;exact ⟨rfl,Ext.refl _⟩
  ·have h4 : -1000000000<=z:=by omega
   have hg:grt z=false:=decide_eq_false (by omega);rw [hg];clear hg
   go_enter Tryz.func239,Tryz.ntmps239
   go_wp2
   go_ret;exact ⟨rfl,Ext.refl _⟩
def XJ (c:Nat) (r:List Int):Int:=if 12<r.length then 4 else if r.length≠c then 5 else if r.any grt then 4 else 0
def chk (c:Nat):Mx->Int
 | []=>0
 | r::M=>if XJ c r=0 then chk c M else XJ c r
def Qr (M:Mx):Int:=if 12<M.length then 4 else chk (M.getD 0 []).length M
theorem KlL (c:Nat) : ∀(M:Mx) (i:Nat) (h:i<M.length),(∀j (hj:j<i),XJ c (M[j]'(by omega))=0)->XJ c M[i]≠0->chk c M=XJ c M[i]
 | [],_,h,_,_=>by simp at h
 | r::M,0,_,_,hne=>by simp only [List.getElem_cons_zero] at hne ⊢;rw [chk,if_neg hne]
 | r::M,i+1,h,hz,hne=>by
  rw [chk,if_pos (show XJ c r=0 from hz 0 (by omega))];exact KlL c M i (by simpa using h) (λj hj=>hz (j+1) (by omega)) hne
theorem KaZ (c:Nat) : ∀(M:Mx),(∀j (hj:j<M.length),XJ c M[j]=0)->chk c M=0
 | [],_=>rfl
 | r::M,hz=>by
  rw [chk,if_pos (show XJ c r=0 from hz 0 (by simp))];exact KaZ c M (λj hj=>hz (j+1) (by simpa using hj))
theorem KlM {c:Nat} : ∀{M:Mx},chk c M=0 -> ∀r∈M,XJ c r=0
 | [],_,r,hr=>by cases hr
 | r::M,h,x,hx=>by
  rw [chk] at h;split at h
  ·rcases List.mem_cons.1 hx with rfl | hx
   ·assumption
   ·exact KlM h x hx
  ·exact absurd h ‹_›
theorem KnK {c:Nat} {r:List Int} (h:XJ c r=0):r.length<=12/\r.length=c /\ ∀z∈r,-1000000000<=z/\z<=1000000000:=by
 unfold XJ at h;split at h
 ·cases h
 ·split at h
  ·cases h
  ·split at h
   ·cases h
   ·rename_i h1 h2 h3
    refine ⟨by omega,by omega,λz hz => ?_⟩
    have:grt z=false:=by
     cases hg:grt z
     ·rfl
     ·exact absurd (List.any_eq_true.2 ⟨z,hz,hg⟩) h3
    unfold grt at this;have:=of_decide_eq_false this;omega
def KT (M:Mx):Nat:=(M.getD 0 []).length
theorem J8 {M:Mx} (h:Qr M=0):M.length<=12/\KT M<=12/\Ks (KT M) M /\ ∀r∈M,∀z∈r,-1000000000<=z/\z<=1000000000:=by
 unfold Qr at h;split at h
 ·cases h
 ·have hr:=λr hr=>KnK (KlM h r hr)
  refine ⟨by omega,?_,λr h'=>(hr r h').2.1,λr h'=>(hr r h').2.2⟩
  cases M with
  | nil=>simp [KT]
  | cons r M=>exact (hr r (by simp)).1
theorem Ki6 (r:List Int):KaE (λi=>grt (r.getD i 0)) r.length=r.any grt:=by
 cases h:r.any grt
 ·refine KaV λi hi => ?_
  rw [Ka hi]
  cases hg:grt r[i]
  ·rfl
  ·rw [List.any_eq_true.2 ⟨_,List.getElem_mem hi,hg⟩] at h;cases h
 ·obtain ⟨z,hz,hg⟩:=List.any_eq_true.1 h;obtain ⟨i,hi,rfl⟩:=List.getElem_of_mem hz;exact KaU.2 ⟨i,hi,by rw [Ka hi];exact hg⟩
theorem Xe {w:World} {v:Value} {M:Mx} (hM:Qb w v M) :
  Calls Tryz.prog 180 #[v] w λe w'=>e = .returned (.int .i64 (Qr M))/\Ext w w':=by
 obtain ⟨sa,gb,go,cap,vs,rfl,hcap,hvl,hS,hr⟩:=hM
 by_cases hbig:12<M.length
 ·have hbi:(12:Int)<(M.length:Int):=by omega
  have he:Qr M=4:=by unfold Qr;rw [if_pos hbig]
  rw [he];clear he hS hr hvl
  go_enter Tryz.func180,Tryz.ntmps180
  go_wp2_with fail;go_ret;exact ⟨rfl,Ext.refl _⟩
 have he:Qr M=chk (M.getD 0 []).length M:=by unfold Qr;rw [if_neg hbig]
 rw [he];have hml:M.length<=12:=by omega
 have hmi:(M.length:Int)<=12:=by omega
 have HS:=hid hS;have HV:=hid hvl;have HR:=hid hr;clear hS hvl hr he hbig
 go_enter Tryz.func180,Tryz.ntmps180
 go_wp2_with fail
 go_loopw [10] (λidx wr => ∃i:Nat,i<=M.length/\idx = .int .i64 i/\Hid (∀j (h:j<M.length),j<i->XJ (M.getD 0 []).length M[j]=0)/\Ext w wr) (λidx _=>M.length-(intOf idx).toNat)
 case atStart=>exact ⟨0,by omega,by go_num,hid (λj _ h=>by omega),Ext.refl _⟩
 case round =>
  obtain ⟨i,hi,rfl,Hz,hE⟩:=hrel;generalize wr=X at *
  by_cases hlt:i<M.length
  ·have hii:(i:Int)<(M.length:Int):=by omega
   have hi0:0<M.length:=by omega
   obtain rfl:=HS.out.addr (by rw [HV.out];omega);obtain ⟨sr,br,or,cr,hrow,hrc,hSr⟩:=Qb.row HS.out HV.out HR.out hlt;obtain ⟨s0,b0,o0,c0,hrow0,hrc0,hS0⟩:=Qb.row HS.out HV.out HR.out hi0;have hrow':=hE.cell hrow;have hrow0':=hE.cell hrow0;rw [Nat.add_zero] at hrow0';obtain ⟨c,hc⟩ : ∃c,c=(M.getD 0 []).length:=⟨_,rfl⟩
   have hc0:M[0].length=c:=by rw [hc,Ka hi0]
   rw [hc0] at hrow0';obtain ⟨n,hn⟩ : ∃n,n=M[i].length:=⟨_,rfl⟩
   rw [<-hn] at hrow';have HC:=hid hc;have Hn:=hid hn
   have hat:XJ c M[i]≠0->chk (M.getD 0 []).length M=XJ c M[i]:=λh=>by
    rw [hc];exact KlL _ M i hlt (λj hj=>Hz.out j (by omega) hj) (by rw [<-hc];exact h)
   have Hat:=hid hat;clear hrow hrow0 hrc0 hS0 hc hc0 hn hat
   by_cases h12:12<n
   ·have h12i:(12:Int)<(n:Int):=by omega
    have hch:XJ c M[i]=4:=by unfold XJ;rw [<-Hn.out,if_pos h12]
    have Hch:=hid hch;clear hch;go_wp2_with fail;go_ret;exact ⟨by rw [Hat.out (by rw [Hch.out];decide),Hch.out];rfl,hE⟩
   ·have h12i:(n:Int)<=12:=by omega
    have h12d:decide ((12:Int)<(n:Int))=false:=decide_eq_false (by omega)
    by_cases hnc:n=c
    ·subst hnc
     have hgr:=hid (Kdm (cap:=cr) (p:=λk=>grt (M[i].getD k 0)) (vs:=is M[i]) (w:=X) ((hSr.ext hE)) (by rw [Kv,<-Hn.out];omega) (λk hk W hW=>by
      have hk':k<M[i].length:=by simpa using hk
      have e:(is M[i])[k] = .int .i64 M[i][k]:=by simp [is]
      rw [e,Ka hk']
      exact Kky M[i][k] W))
     rw [Kv,Ki6,<-Hn.out] at hgr
     cases hg:M[i].any grt
     ·rw [hg] at hgr;have Hg:=hid hg;clear hg h12;go_wp2_with fail;refine hgr.out.mono ?_;rintro e W ⟨rfl,hW⟩;go_wp2_with fail;go_roundw
      case rel=>exact ⟨i+1,by omega,by go_num,hid (λj h hj=>by
       by_cases e:j=i
       ·subst e;rw [<-HC.out];unfold XJ;rw [<-Hn.out,if_neg (by omega),if_neg (by omega),Hg.out];rfl
       ·exact Hz.out j h (by omega)),hE.trans hW⟩
      case measure=>simp [intOf]<;>omega
     ·rw [hg] at hgr;have hch:XJ n M[i]=4:=by unfold XJ;rw [<-Hn.out,if_neg (by omega),if_neg (by omega),hg];rfl
      have Hch:=hid hch;clear hg h12 hch;go_wp2_with fail;refine hgr.out.mono ?_;rintro e W ⟨rfl,hW⟩;go_wp2_with fail;go_ret;exact ⟨by rw [Hat.out (by rw [Hch.out];decide),Hch.out];rfl,hE.trans hW⟩
    ·have hch:XJ c M[i]=5:=by unfold XJ;rw [<-Hn.out,if_neg h12,if_pos hnc]
     have Hch:=hid hch;have hnb:((n:Int)==(c:Int))=false:=beq_eq_false_iff_ne.2 (by omega);have hnb2:((n:Int) != (c:Int))=true:=by simp [bne,hnb]
     have hnc' : ¬(n:Int)=(c:Int):=by omega
     clear hch hnc h12;go_wp2_with fail;go_ret;exact ⟨by rw [Hat.out (by rw [Hch.out];decide),Hch.out];rfl,hE⟩
  ·have Hch:=hid (KaZ (M.getD 0 []).length M (λj h=>Hz.out j h (by omega)));go_wp2_with fail;go_ret;exact ⟨by rw [Hch.out];rfl,hE⟩
theorem Tryz.infoInt:(Tryz.prog.info? 3).map (λi=>(i.zero,i.size,i.bytes))=some (some (.int .i64 0),1,8):=by kernel_rfl
def QH (l:List Int):Bool:=l.all λz => !grt z
theorem KaO {l:List Int}:QH l=true ↔ ∀z∈l,-1000000000<=z/\z<=1000000000:=by
 unfold QH;rw [List.all_eq_true];constructor
 ·intro h z hz;have:=h z hz;unfold grt at this;simp only [Bool.not_eq_true',decide_eq_false_iff_not] at this;omega
 ·intro h z hz;have:=h z hz;unfold grt;simp only [Bool.not_eq_true',decide_eq_false_iff_not];omega
def Kpe (B:Nat) (w:World) (v:Value) (r:List Int):Prop := ∃g cap,v=slv g r.length cap/\Kd 3 B w g cap (is r)
def KcM (w:World) (l:List Int) (e:Ending) (w':World):Prop :=
 (if QH l then ∃v,e = .returned (.tuple #[v,.int .i64 0])/\Kpe w.heap.size w' v l else e = .returned (.tuple #[.slice none 0 0,.int .i64 4]))/\Ext w w'
theorem Kfp {l:List Int} {i:Nat} (h:i<l.length) (hg:grt l[i]=true):QH l=false:=by
 cases hs:QH l
 ·rfl
 ·have:=KaO.1 hs _ (List.getElem_mem h);unfold grt at hg;have:=of_decide_eq_true hg;omega
theorem Kb0 {l:List Int} (h : ∀j (hj:j<l.length),grt l[j]=false):QH l=true:=by
 refine KaO.2 λz hz => ?_
 obtain ⟨j,hj,rfl⟩:=List.getElem_of_mem hz;have:=h j hj;unfold grt at this;have:=of_decide_eq_false this;omega
theorem KfX {l:List Int} {i:Nat} (h:i<l.length):is (l.take (i+1))=is (l.take i)++[.int .i64 l[i]]:=by
 rw [List.take_succ_eq_append_getElem h];simp only [is,List.map_append,List.map_cons,List.map_nil]
theorem Tryz.infoRow:(Tryz.prog.info? 30).map (λi=>(i.zero,i.size,i.bytes))=some (some (.slice none 0 0),1,24):=by kernel_rfl
def KH (B:Nat) (w:World) (v:Value) (r:List Int):Prop:=w.ownsRow B 3 1 v r.length (is r)
theorem KH.nil (B:Nat) (w:World):KH B w (.slice none 0 0) []:=⟨rfl,.inl ⟨rfl,rfl⟩⟩
theorem KH.ext {B:Nat} {w w':World} {v:Value} {r:List Int} (h:KH B w v r) (he:Ext w w'):KH B w' v r:=K9 h he
theorem Q9 {w:World} {B B':Nat} {e:TypeId} {size n:Nat} {v:Value} {xs:List Value} (h:w.ownsRow B e size v n xs) (hB:B'<=B):w.ownsRow B' e size v n xs:=by
 refine ⟨h.1,?_⟩
 rcases h.2 with h' | ⟨g',cap',cur,h',hB',r⟩
 ·exact .inl h'
 ·exact .inr ⟨g',cap',cur,h',by omega,r⟩
theorem KH.mono {B B':Nat} {w:World} {v:Value} {r:List Int} (h:KH B w v r) (hB:B'<=B):KH B' w v r:=Q9 h hB
theorem KH.row {B:Nat} {w:World} {v:Value} {r:List Int} (h:KH B w v r):KQ w v r:=by
 rcases h.2 with ⟨rfl,h0⟩ | ⟨g,cap,cur,rfl,hb,hg,hn,hm,hs,ht⟩
 ·have:r=[]:=by cases r with
   | nil=>rfl
   | cons=>simp at h0
  subst this;exact ⟨none,0,0,0,rfl,Nat.le_refl _,Sl.nil _ _ _ _⟩
 ·have ho:Kd 3 B w g cap (is r):=by unfold Kd;rw [Kv];exact h
  exact ⟨_,g,0,cap,rfl,hn,ho.sl⟩
theorem KdN {B B':Nat} {w:World} {T T':TypeId} {size size' n n':Nat} {u v:Value} {xs ys:List Value} (h:w.ownsRow B T size u n xs) (h':w.ownsRow B' T' size' v n' ys) (hT:T≠T') {g:Nat} (hg:u.ownBlock=some g):v.ownBlock≠some g:=by
 intro e
 rcases h.2 with ⟨rfl,_⟩ | ⟨g1,cap,cur,rfl,_,hg1,_⟩
 ·cases hg
 ·rcases h'.2 with ⟨rfl,_⟩ | ⟨g2,cap2,cur2,rfl,_,hg2,_⟩
  ·cases e
  ·injection hg with hg;injection e with e
   subst hg;subst e
   rw [hg1] at hg2;injection hg2 with hg2
   injection hg2 with _ h3
   exact hT h3
theorem KB {B B':Nat} {w w':World} {T T':TypeId} {size size' n n':Nat} {u v:Value} {xs ys:List Value} (h:w.ownsRow B T size u n xs) (h':w.ownsRow B' T' size' v n' ys) (hT:T≠T') (hg:w.grownBy w' v.ownBlock):w'.ownsRow B T size u n xs:=by
 refine World.ownsRow.kept h hg ?_
 cases hu:u.ownBlock with
 | none=>exact .inl rfl
 | some g=>exact .inr (λe=>KdN h h' hT hu e.symm)
theorem Kn6 (r:List Int) (z:Int):is (r++[z])=is r++[.int .i64 z]:=by simp only [is,List.map_append,List.map_cons,List.map_nil]
section
variable {w:World} {ops:Array Oper} {rest:List Oper} {o:Oper} {a:Act} {Q:Exit->Act->World->Prop}
theorem Yu (hgd:o.guard=none) (s x:Operand) (t:TypeId) (ht:Tryz.prog.underlying t=some (.slice 3)) (ho:o.op = .call { callee := .builtin .append,args := #[s,x],argTypes := #[t,t] })
  {B:Nat} {v:Value} {r:List Int} (hs:a.eval s=v) (hown:KH B w v r) {b:Nat} {z:Int} (hx:a.eval x = .slice (some ⟨b,0,none⟩) 1 1) (hc:w.cell? ⟨b,0,none⟩=some (.int .i64 z)) (hl:r.length<=1000000000) (hB:B<=w.heap.size)
  (h : ∀g cap w',KH B w' (slv g (r.length+1) cap) (r++[z])->Below B w w'->w.grownBy w' v.ownBlock->wpList Tryz.prog ops Q rest (a.put o.dst (slv g (r.length+1) cap)) w'):wpList Tryz.prog ops Q (o::rest) a w:=by
 obtain ⟨i0,hi,hz0,hz1,hz2⟩:=info_parts Tryz.infoInt;refine wpList_append_lies w hgd s x t ho B 3 i0 _ 1 8 ht hi hz0 hz1 hz2 rfl (by omega) v r.length (is r) hs hown ⟨b,0,none⟩ 1 1 [.int .i64 z] hx rfl ?_ (YE _ _) (by omega) (by unfold maxLen;omega) (by omega) hB w.heap.size rfl ?_
 ·intro j u hj;have:j=0:=by have:=(List.getElem?_eq_some_iff.1 hj).1;simp at this;omega
  subst this;simp only [List.getElem?_cons_zero,Option.some.injEq] at hj;subst hj;simpa [Addr.add_lit] using hc
 ·intro g cap w' h1 h2 h3 h4;refine h g cap w' ?_ (Below.grown (Below.refl _ _) h2 hB (λq hq=>(World.ownsRow.lt hown q hq).1)) h2;unfold KH;rw [Kn6,List.length_append];exact h1
def Q4 (B:Nat) (w:World) (v:Value) (F:Mx):Prop := ∃vs,vs.length=F.length/\w.ownsRow B 30 1 v F.length vs /\ ∀t (_:t<F.length) (h':t<vs.length),KH B w vs[t] F[t]
theorem Q4.nil (B:Nat) (w:World):Q4 B w (.slice none 0 0) []:=⟨[],rfl,⟨rfl,.inl ⟨rfl,rfl⟩⟩,λt h=>by simp at h⟩
theorem Q4.ext {B:Nat} {w w':World} {v:Value} {F:Mx} (h:Q4 B w v F) (he:Ext w w'):Q4 B w' v F:=by
 obtain ⟨vs,h1,h2,h3⟩:=h;exact ⟨vs,h1,K9 h2 he,λt a b=>(h3 t a b).ext he⟩
theorem Q4.mono {B B':Nat} {w:World} {v:Value} {F:Mx} (h:Q4 B w v F) (hB:B'<=B):Q4 B' w v F:=by
 obtain ⟨vs,h1,h2,h3⟩:=h;exact ⟨vs,h1,Q9 h2 hB,λt a b=>(h3 t a b).mono hB⟩
theorem Q4.mat {B:Nat} {w:World} {v:Value} {F:Mx} (h:Q4 B w v F):Qb w v F:=by
 obtain ⟨vs,h1,h2,h3⟩:=h;have hr : ∀i (h:i<F.length) (h':i<vs.length),KQ w vs[i] F[i]:=λi a b=>(h3 i a b).row
 rcases h2.2 with ⟨rfl,h0⟩ | ⟨g,cap,cur,rfl,hb,hg,hn,hm,hs,ht⟩
 ·have:F=[]:=List.eq_nil_of_length_eq_zero h0;subst this;have hv:vs=[]:=List.eq_nil_of_length_eq_zero h1;subst hv;exact ⟨none,0,0,0,[],rfl,Nat.le_refl _,rfl,Sl.nil _ _ _ _,hr⟩
 ·have ho:Kd 30 B w g cap vs:=by unfold Kd;rw [h1];exact h2
  exact ⟨_,g,0,cap,vs,rfl,hn,h1,ho.sl,hr⟩
theorem KH.one {B:Nat} {w:World} {v:Value} {r:List Int} (h:KH B w v r):v.oneCell'=true:=by
 rcases h.2 with ⟨rfl,_⟩ | ⟨g,cap,cur,rfl,_⟩<;>rfl
theorem KfH (hgd:o.guard=none) (s x:Operand) (ho:o.op = .call { callee := .builtin .append,args := #[s,x],argTypes := #[32,32] })
  {B:Nat} {v rv:Value} {F:Mx} {r:List Int} (hs:a.eval s=v) (hown:Q4 B w v F) {b:Nat} (hx:a.eval x = .slice (some ⟨b,0,none⟩) 1 1) (hc:w.cell? ⟨b,0,none⟩=some rv) (hr:KH B w rv r) (hl:F.length<=1000000000) (hB:B<=w.heap.size)
  (h : ∀g cap w',Q4 B w' (slv g (F.length+1) cap) (F++[r])->Below B w w'->w.grownBy w' v.ownBlock->wpList Tryz.prog ops Q rest (a.put o.dst (slv g (F.length+1) cap)) w'):wpList Tryz.prog ops Q (o::rest) a w:=by
 obtain ⟨i0,hi,hz0,hz1,hz2⟩:=info_parts Tryz.infoRow;obtain ⟨vs,h1,h2,h3⟩:=hown;refine wpList_append_lies w hgd s x 32 ho B 30 i0 _ 1 24 Tryz.underlying32 hi hz0 hz1 hz2 rfl (by omega) v F.length vs hs h2 ⟨b,0,none⟩ 1 1 [rv] hx rfl ?_ ?_ (by omega) (by unfold maxLen;omega) (by omega) hB w.heap.size rfl ?_
 ·intro j u hj;have:j=0:=by have:=(List.getElem?_eq_some_iff.1 hj).1;simp at this;omega
  subst this;simp only [List.getElem?_cons_zero,Option.some.injEq] at hj;subst hj;simpa [Addr.add_lit] using hc
 ·intro u hu;simp only [List.mem_cons,List.not_mem_nil,or_false] at hu;subst hu;exact hr.one
 ·intro g cap w' k1 k2 k3 k4;have hkeep : ∀{u:Value} {l:List Int},KH B w u l->KH B w' u l:=λhu=>KB hu h2 (by decide) k2
  refine h g cap w' ⟨vs++[rv],by simp [h1],?_,λt ht ht' => ?_⟩ (Below.grown (Below.refl _ _) k2 hB (λq hq=>(World.ownsRow.lt h2 q hq).1)) k2
  ·rw [List.length_append];exact k1
  ·rcases Nat.lt_or_ge t F.length with hlt | hge
   ·rw [List.getElem_append_left (by omega),List.getElem_append_left hlt];exact hkeep (h3 t hlt (by omega))
   ·have hte:t=F.length:=by simp at ht;omega
    subst hte;rw [List.getElem_append_right (by omega),List.getElem_append_right (by omega)];simp only [h1,Nat.sub_self,List.getElem_cons_zero];exact hkeep hr
end
def KS (B:Nat) (w:World) (v:Value) (l:List Int):Prop:=w.ownsRow B 82 1 v l.length (ss l)
theorem KS.nil (B:Nat) (w:World):KS B w (.slice none 0 0) []:=⟨rfl,.inl ⟨rfl,rfl⟩⟩
theorem KS.ext {B:Nat} {w w':World} {v:Value} {l:List Int} (h:KS B w v l) (he:Ext w w'):KS B w' v l:=K9 h he
theorem KS.mono {B B':Nat} {w:World} {v:Value} {l:List Int} (h:KS B w v l) (hB:B'<=B):KS B' w v l:=Q9 h hB
theorem KS.sl {B:Nat} {w:World} {v:Value} {l:List Int} (h:KS B w v l) : ∃ga gb cap,v = .slice ga l.length cap/\l.length<=cap/\Sl w ga gb 0 (ss l):=by
 rcases h.2 with ⟨rfl,h0⟩ | ⟨g,cap,cur,rfl,hb,hg,hn,hm,hs,ht⟩
 ·have:l=[]:=List.eq_nil_of_length_eq_zero h0;subst this;exact ⟨none,0,0,rfl,Nat.le_refl _,Sl.nil _ _ _ _⟩
 ·have ho:Kd 82 B w g cap (ss l):=by unfold Kd;rw [Kw];exact h
  exact ⟨_,g,cap,rfl,hn,ho.sl⟩
theorem Kow (l:List Int) (z:Int):ss (l++[z])=ss l++[I z]:=by simp only [ss,List.map_append,List.map_cons,List.map_nil]
theorem Kd.ints {B:Nat} {w:World} {g cap:Nat} {l:List Int} (h:Kd 82 B w g cap (ss l)):KS B w (slv g l.length cap) l:=by
 unfold KS;unfold Kd at h;rw [Kw] at h;exact h
section
variable {w:World} {ops:Array Oper} {rest:List Oper} {o:Oper} {a:Act} {Q:Exit->Act->World->Prop}
theorem Kgo (hgd:o.guard=none) (s x:Operand) (ho:o.op = .call { callee := .builtin .append,args := #[s,x],argTypes := #[122,122] })
  {B:Nat} {v:Value} {r:List Int} (hs:a.eval s=v) (hown:KS B w v r) {b:Nat} {z:Int} (hx:a.eval x = .slice (some ⟨b,0,none⟩) 1 1) (hc:w.cell? ⟨b,0,none⟩=some (I z)) (hl:r.length<=1000000000) (hB:B<=w.heap.size)
  (h : ∀g cap w',KS B w' (slv g (r.length+1) cap) (r++[z])->Below B w w'->w.grownBy w' v.ownBlock->wpList Tryz.prog ops Q rest (a.put o.dst (slv g (r.length+1) cap)) w'):wpList Tryz.prog ops Q (o::rest) a w:=by
 obtain ⟨i0,hi,hz0,hz1,hz2⟩:=info_parts Tryz.infoStr;refine wpList_append_lies w hgd s x 122 ho B 82 i0 _ 1 16 Tryz.underlying122 hi hz0 hz1 hz2 rfl (by omega) v r.length (ss r) hs hown ⟨b,0,none⟩ 1 1 [I z] hx rfl ?_ (Kon _) (by omega) (by unfold maxLen;omega) (by omega) hB w.heap.size rfl ?_
 ·intro j u hj;have:j=0:=by have:=(List.getElem?_eq_some_iff.1 hj).1;simp at this;omega
  subst this;simp only [List.getElem?_cons_zero,Option.some.injEq] at hj;subst hj;simpa [Addr.add_lit] using hc
 ·intro g cap w' h1 h2 h3 h4;refine h g cap w' ?_ (Below.grown (Below.refl _ _) h2 hB (λq hq=>(World.ownsRow.lt hown q hq).1)) h2;unfold KS;rw [Kow,List.length_append];exact h1
end
theorem Kev (n g c:Nat) : ∃a l k,xv n g c = .slice a l k:=by
 unfold xv;split<;>exact ⟨_,_,_,rfl⟩
end
section
def pv (r:List Int):Nat:=r.findIdx λz=>decide (z≠0)
def pvI (r:List Int):Int:=if pv r<r.length then (pv r:Int) else -1
theorem Ko1 (r:List Int):pv r<=r.length:=List.findIdx_le_length
theorem Kbi {r:List Int} {j:Nat} (h:j<pv r):r.getD j 0=0:=by
 have hl:j<r.length:=Nat.lt_of_lt_of_le h (Ko1 r);have:=List.not_of_lt_findIdx (p:=λz:Int=>decide (z≠0)) (xs:=r) h;rw [Ka hl];simpa using this
theorem Kfb {r:List Int} (h:pv r<r.length):r.getD (pv r) 0≠0:=by
 have:=List.findIdx_getElem (xs:=r) (p:=λz:Int=>decide (z≠0)) (w:=h);rw [Ka h];simpa [pv] using this
theorem Kiw (r:List Int):IxR (λi=>decide (r.getD i 0≠0)) r.length (pvI r):=by
 unfold pvI
 by_cases h:pv r<r.length
 ·rw [if_pos h];exact .inr ⟨pv r,h,rfl,decide_eq_true (Kfb h),λj hj=>decide_eq_false (by simpa using Kbi hj)⟩
 ·rw [if_neg h];exact .inl ⟨rfl,λi hi=>decide_eq_false (by simpa using Kbi (by omega))⟩
theorem Ko2 {r:List Int} {p:Nat} (hp:r.getD p 0≠0) (hz : ∀j,j<p->r.getD j 0=0):pv r=p/\p<r.length:=by
 have hl:p<r.length:=by
  rcases Nat.lt_or_ge p r.length with h | h
  ·exact h
  ·rw [List.getD_eq_getElem?_getD,List.getElem?_eq_none h] at hp;exact absurd rfl hp
 refine ⟨?_,hl⟩
 rcases Nat.lt_trichotomy (pv r) p with h | h | h
 ·exact absurd (hz _ h) (Kfb (by omega))
 ·exact h
 ·exact absurd (Kbi h) hp
theorem Yi {α β:Type} (f:α->β) (l:List α) (i:Nat) (h:i<l.length) (d:β) (e:α):(l.map f).getD i d=f (l.getD i e):=by
 rw [Ka (by simpa using h),Ka h];simp
theorem Kih {n:Nat} {ps:List Nat} {M:Mx} (h:IsH n ps M):ps=M.map pv:=by
 refine List.ext_getElem (by rw [h.len];simp) λi h1 h2 => ?_
 have hi:i<M.length:=by simpa using h2
 have hp:=h.pos i hi;have hl:=h.left i hi;rw [Ka h1] at hp hl;have:=(Ko2 (r:=M.getD i []) (p:=ps[i]) (by show eM M i ps[i]≠0;omega) (λj hj=>hl j hj)).1;rw [List.getElem_map,<-this,Ka hi]
theorem Zb {F:Mx} {i:Nat} (h:i<F.length):F.take (i+1)=F.take i++[F[i]]:=List.take_succ_eq_append_getElem h
end
section
open Go.RowKit Go.Sort
open Hnf (V Ko Ech Red)
def Xn (F:Mx):Bool:=F.all QH
theorem KbK {d:Nat} {ls:List Ln} {i:Nat} (hi:i<d) (hd:d<=ls.length) (h:i<(Q6 d ls).length):(Q6 d ls)[i]=(ls.getD i default).1:=by
 simp only [Q6,List.getElem_map,List.getElem_take,Ka (show i<ls.length by omega)]
theorem XO {d:Nat} {ls:List Ln} (hd:d<=ls.length):(Q6 d ls).length=d:=by unfold Q6;simp;omega
theorem KiL {F:Mx} {i:Nat} (h:i<F.length) (hs:QH F[i]=false):Xn F=false:=by
 cases hm:Xn F
 ·rfl
 ·have:=List.all_eq_true.1 hm _ (List.getElem_mem h);rw [this] at hs;cases hs
theorem KiM {F:Mx} (h : ∀j (hj:j<F.length),QH F[j]=true):Xn F=true:=by
 refine List.all_eq_true.2 λr hr => ?_
 obtain ⟨j,hj,rfl⟩:=List.getElem_of_mem hr;exact h j hj
end
section
open Go.RowKit Go.Sort
def hdX (n:Nat) (ad:List (Nat×Nat)):List Value:=ad.map λa=>slv a.1 n a.2
@[simp] theorem KpB (n:Nat) (ad:List (Nat×Nat)):(hdX n ad).length=ad.length:=by simp [hdX]
theorem Kbn {B:Nat} {w:World} {g cap n:Nat} {r:List Int} (h:KH B w (slv g n cap) r) (hn:r.length=n):Kd 3 B w g cap (is r):=by
 subst hn;unfold KH at h;unfold Kd;rw [Kv];exact h
theorem Kba (w:World) (o:Obj):(w.alloc o).heap[w.heap.size]? = some o:=by
 show (w.heap.push o)[w.heap.size]? = some o;simp
theorem Kfk {w:World} {g:Nat} (h:w.heap[g]? = some (.cells #[] 3 (0,0))) {B:Nat} (hB:B<=g):KH B w (.slice (some ⟨g,0,none⟩) 0 0) [] :=
 ⟨rfl,.inr ⟨g,0,#[],rfl,hB,h,Nat.le_refl _,Nat.zero_le _,rfl,rfl⟩⟩
theorem Kew {B n g:Nat} {w:World} (h:w.ownsRow B 3 1 (.slice (some ⟨g,0,none⟩) n n) n (madeCells (Value.int .i64 0).cells (n*1)).toList):KH B w (.slice (some ⟨g,0,none⟩) n n) (List.replicate n 0):=by
 unfold KH
 have e:(madeCells (Value.int .i64 0).cells (n*1)).toList=is (List.replicate n 0):=by
  rw [show (Value.int .i64 0).cells = #[.int .i64 0] from rfl,toList_madeCells_one,Nat.mul_one];simp [is]
 rw [List.length_replicate,<-e];exact h
section
variable {w:World} {ops:Array Oper} {rest:List Oper} {o:Oper} {a:Act} {Q:Exit->Act->World->Prop}
end
end
end Go.Proofs.YtmhfccigejcphaaGreatDoor
