/- Part 50 of the proof of the claim: contracts of the functions that it reaches, and plain laws; no condition. -/
import Derived.Test.YtdmaofimeknkbaaGreatDoorQ45
import Derived.Test.YtdmaofimeknkbaaGreatDoorQ46
import Derived.Test.YtdmaofimeknkbaaGreatDoorQ49
set_option maxRecDepth 100000
set_option maxHeartbeats 20000000
namespace Go.Proofs.YtdmaofimeknkbaaGreatDoor
section
open Go.RowKit Go.Sort
open Lib (hid)
structure FlW (w:World) (B b go co gm cu n m cp:Nat) (sp:Option Addr) (Q:List Rat) (M:Mx):Prop where
 c0:w.cell? ⟨b,0,none⟩=some (.slice sp n cp)
 c1:w.cell? ⟨b,1,none⟩=some (.slice (some ⟨gm,0,none⟩) m cu)
 c2:w.cell? ⟨b,2,none⟩=some (slv go m co)
 of:OwQ B w go co Q
 mt:Qk B w (.slice (some ⟨gm,0,none⟩) m cu) M
 ne:b≠go
 ql:Q.length=m
theorem FlW.ext {w w':World} {B b go co gm cu n m cp:Nat} {sp:Option Addr} {Q:List Rat} {M:Mx} (h:FlW w B b go co gm cu n m cp sp Q M) (he:Ext w w'):FlW w' B b go co gm cu n m cp sp Q M :=
 ⟨he.cell h.c0,he.cell h.c1,he.cell h.c2,h.of.ext he,h.mt.ext he,h.ne,h.ql⟩
theorem FlW.put {w w0:World} {B b go co gm cu n m cp j:Nat} {sp:Option Addr} {Q O:List Rat} {M:Mx} {K:Nat} {v:Value} {G:List Mx} (h:FlW w B b go co gm cu n m cp sp (ovL Q O m (j+1)) M) (hk:QP K w v G) (hj:j<m) (hE:Ext w0 w) (hB:w0.heap.size<=B) :
  FlW ((w.setCell ⟨go,j*2,none⟩ (I (O.getD j 0).num)).setCell ⟨go,j*2+1,none⟩ (I (O.getD j 0).den)) B b go co gm cu n m cp sp (ovL Q O m j) M/\QP K ((w.setCell ⟨go,j*2,none⟩ (I (O.getD j 0).num)).setCell ⟨go,j*2+1,none⟩ (I (O.getD j 0).den)) v G/\Ext w0 ((w.setCell ⟨go,j*2,none⟩ (I (O.getD j 0).num)).setCell ⟨go,j*2+1,none⟩ (I (O.getD j 0).den))/\w.grownBy ((w.setCell ⟨go,j*2,none⟩ (I (O.getD j 0).num)).setCell ⟨go,j*2+1,none⟩ (I (O.getD j 0).den)) (some go)/\w.frozen? ⟨go,j*2,none⟩=false/\w.frozen? ⟨go,j*2+1,none⟩=false/\(∃u,w.cell? ⟨go,j*2,none⟩=some u)/\(∃u,w.cell? ⟨go,j*2+1,none⟩=some u):=by
 obtain ⟨h1,g1⟩:=h.of.set2 j (O.getD j 0);have hjl:j<(ovL Q O m (j+1)).length:=by simpa using hj
 obtain ⟨c0,c1⟩:=h.of.cells hjl;have hg:=h.of.lt.1;refine ⟨⟨Kl g1 h.ne h.c0,Kl g1 h.ne h.c1,Kl g1 h.ne h.c2,?_,Kbm h.mt h.of (by decide) (by decide) g1,h.ne,by simp⟩,Kak hk h.of (by decide) (by decide) (by decide) g1,Kb hE g1 (by omega),g1,h.of.frozen _,h.of.frozen _,⟨_,c0⟩,⟨_,c1⟩⟩;rw [Knc] at h1;exact h1
theorem KhJ (z:Int):z^1=z:=by rw [show (1:Nat)=0+1 from rfl,Int.pow_succ,Int.pow_zero,Int.one_mul]
theorem KoO {B:Nat} {w:World} {g c n:Nat} {l:List Rat} (h:OwQ B w g c l) (hl:l.length=n):SzR w (slv g n c) l:=by
 subst hl;exact SzV.read (B:=B) h
theorem KaU {w w':World} {q:Option Nat} {b o:Nat} {v:Value} (hG:w.grownBy w' q) (hne : ∀k,q=some k->b≠k) (hc:w.cell? ⟨b,o,none⟩=some v):w'.cell? ⟨b,o,none⟩=some v:=by
 cases q with
 | none=>exact (KR hG).cell hc
 | some g=>exact Kl hG (hne g rfl) hc
theorem FlW.app {w w':World} {B b go co gm cu n m cp K:Nat} {sp:Option Addr} {Q:List Rat} {M:Mx} {v:Value} {G:List Mx} (h:FlW w B b go co gm cu n m cp sp Q M) (hk:QP K w v G) (hG:w.grownBy w' v.ownBlock) (hb:b<K):FlW w' B b go co gm cu n m cp sp Q M:=by
 obtain ⟨vs,k1,k2,k3⟩:=hk;have hne : ∀k,v.ownBlock=some k->b≠k:=λk e=>by have:=(World.ownsRow.lt k2 k e).1;omega
 exact ⟨KaU hG hne h.c0,KaU hG hne h.c1,KaU hG hne h.c2,Ks h.of k2 (by decide) hG,Kbm h.mt k2 (by decide) (by decide) hG,h.ne,h.ql⟩
theorem KkR {a w w':World} {K g:Nat} {v:Value} {G:List Mx} (h:a.grownBy w (some g)) (hk:QP K w v G) (hG:w.grownBy w' v.ownBlock) (hK:a.heap.size<=K):a.grownBy w' (some g):=by
 obtain ⟨vs,k1,k2,k3⟩:=hk;refine ⟨hG.os.trans h.os,hG.tape.trans h.tape,hG.output.trans h.output,Nat.le_trans h.size hG.size,λk hk1 hk2 => ?_⟩;rw [<-h.block k hk1 hk2];exact hG.block k (Nat.lt_of_lt_of_le hk1 h.size) (λe=>by have:=(World.ownsRow.lt k2 k e.symm).1;omega)
theorem Km5 {G:List Mx} {F:Mx} {i:Nat} (hi:i<G.length):decide (F∈G.take (i+1))=(decide (F∈G.take i)||decide (G.getD i []=F)):=by
 rw [List.take_succ_eq_append_getElem hi,Ka hi,Bool.eq_iff_iff];simp only [decide_eq_true_eq,List.mem_append,List.mem_singleton,Bool.or_eq_true];constructor
 ·rintro (h | h)
  ·exact .inl h
  ·exact .inr h.symm
 ·rintro (h | h)
  ·exact .inl h
  ·exact .inr h.symm
theorem KkN {w:World} {p z:Int} {u:Nat->Nat->Int} {o:Nat->Int} (hp:0<=p/\p<=255) (hu : ∀i k,-128<=u i k/\u i k<=127) (ho : ∀i,-128<=o i/\o i<=127) (hz : -128<=z/\z<=127) (hL:Laid w) :
  Calls Tryz.prog 3 #[plv p u o,.int .i8 z] w λe w'=>e = .returned (.bool true)/\Ext w w':=by
 have hmk:=hid (λW (hW:Ext w W)=>KiO (w:=W) hp hu ho (hL.ext hW));have hkn:=hid (λW (hW:Ext w W)=>Khn (w:=W) (hL.ext hW));have HL:=hid hL;clear hp hu ho hL
 go_enter Tryz.func3,Tryz.ntmps3
 go_wp2_with fail;refine (hmk.out _ ((Ext.refl w).alloc _)).mono ?_;rintro e X ⟨cp,cu,gm,sp,vo,f,rfl,⟨so,no,co,rfl⟩,hE1,hB⟩;have EX:Ext w X:=((Ext.refl w).alloc _).trans hE1;obtain ⟨n,hn⟩ : ∃n,n=(Xi p).length:=⟨_,rfl⟩
 obtain ⟨m,hm⟩ : ∃m,m=n-1:=⟨_,rfl⟩
 rw [<-hn,<-hm] at hB ⊢;have HB:=hid hB;have hws:w.heap.size<=(w.alloc (.cells #[.int .u8 p,.int .i8 (u 0 0),.int .i8 (u 0 1),.int .i8 (u 0 2),.int .i8 (u 1 0),.int .i8 (u 1 1),.int .i8 (u 1 2),.int .i8 (o 0),.int .i8 (o 1)] 27)).heap.size:=((Ext.refl w).alloc (.cells #[.int .u8 p,.int .i8 (u 0 0),.int .i8 (u 0 1),.int .i8 (u 0 2),.int .i8 (u 1 0),.int .i8 (u 1 1),.int .i8 (u 1 2),.int .i8 (o 0),.int .i8 (o 1)] 27)).size;have hbox:=KcV X 34 (.slice sp n cp) (.slice (some ⟨gm,0,none⟩) m cu) (.slice so no co);have eA:Ext X (X.alloc (.cells #[.slice sp n cp,.slice (some ⟨gm,0,none⟩) m cu,.slice so no co] 34)):=(Ext.refl X).alloc _;obtain ⟨a0,a1,a2⟩:=Xk hbox;clear hn hm hB hbox hE1 hmk;go_upto_region 2 with fail;generalize X.alloc (.cells #[.slice sp n cp,.slice (some ⟨gm,0,none⟩) m cu,.slice so no co] _)=Y at *;have EY:=EX.trans eA;obtain ⟨b,hb⟩ : ∃b,b=X.heap.size:=⟨_,rfl⟩
 have Hb:=hid hb;rw [<-hb] at a0 a1 a2 ⊢;clear hb;go_wp2_with fail;refine (hkn.out _ EY).mono ?_;rintro e Z ⟨rfl,hEZ⟩;have EZ:=EY.trans hEZ
 cases f
 ·go_wp2_with fail;refine (hkn.out _ EZ).mono ?_;rintro e Z2 ⟨rfl,hE2⟩;go_wp2_with fail;go_ret;exact ⟨rfl,EZ.trans hE2⟩
 ·by_cases hz1:z < -1
  ·go_wp2_with fail;refine (hkn.out _ EZ).mono ?_;rintro e Z2 ⟨rfl,hE2⟩;go_wp2_with fail;go_ret;exact ⟨rfl,EZ.trans hE2⟩
  ·by_cases hz9:9<z
   ·go_wp2_with fail;refine (hkn.out _ EZ).mono ?_;rintro e Z2 ⟨rfl,hE2⟩;go_wp2_with fail;go_ret;exact ⟨rfl,EZ.trans hE2⟩
   ·obtain ⟨hB1,hB2,hB3⟩:=HB.out rfl;have hEXZ:=eA.trans hEZ;have hF:=hid (hB1.ext hEXZ);have hOS:=hid (hB2.ext hEXZ);have hMO:=hid (hB3.ext hEXZ);have hbX:=hid hB2;have a0:=hEZ.cell a0;have a1:=hEZ.cell a1;have a2:=hEZ.cell a2;have hn:=hF.out.hB.hn;have hn0:0<n:=by omega
    have hMl:=hF.out.hB.len;have hml:=hF.out.ml;have hm2:m<=2:=by omega
    have hm0:1<=m:=by omega
    clear HB hB1 hB2 hB3 hkn eA EX EY hEXZ hEZ;obtain ⟨M,hMq⟩ : ∃M,M=unM u n m:=⟨_,rfl⟩
    obtain ⟨O,hOq⟩ : ∃O,O=ofL o m:=⟨_,rfl⟩
    obtain ⟨P,hPq⟩ : ∃P,P=Xi p:=⟨_,rfl⟩
    rw [<-hMq] at hMl hml hMO;rw [<-hOq] at hOS hbX;rw [<-hMq,<-hOq,<-hPq] at hF;obtain ⟨vl,hvq⟩ : ∃vl,vl=ZZ n M:=⟨_,rfl⟩
    rw [<-hvq] at hF;have HB3:=hid hF.out.hB;have Hml:=hid hml;have hOl:O.length=m:=by rw [hF.out.hOl,hml]
    have HOl:=hid hOl;obtain ⟨go,co',ho'⟩:=KeC hOS.out (by omega);rw [hOl] at ho';injection ho' with q1 q2 q3
    subst q1;obtain rfl:=q2.symm;subst q3;have hFl:=hid (show FlW Z w.heap.size b go co gm cu n m cp sp O M from ⟨a0,a1,a2,(KeB hOS.out hOl).mono hws,hMO.out.mono hws,by have:=(KeB hbX.out hOl).lt.2;have:=Hb.out;omega,hOl⟩);have Hval:=hid (Kcr (w:=Z) (sp:=sp) (cp:=cp) (vo:=slv go m co) hn hF.out.hM HB3.out.len HB3.out.rect HB3.out.bd);have Hok:=hid HB3.out.okV;have Hvv:=hid hvq;clear hMq hOq hPq hvq hMl hml hn hOl hbX hMO hOS Hb hws;go_wp2_with fail;refine Hval.out.mono ?_;rintro e Z2 ⟨hcase,hE2⟩
    rcases hcase with ⟨_,vv,rfl,hvv⟩ | ⟨hno,_⟩
    rotate_left
    ·rw [Hok.out] at hno;cases hno
    rw [<-Hvv.out] at hvv;have hvlen:=HB3.out.vlen;obtain ⟨sv,gv,ov,cv,rfl,hcv,hSv⟩:=hvv.row;rw [hvlen] at hcv ⊢;obtain rfl:=hSv.addr (by rw [Kq,hvlen];exact hn0);obtain ⟨V,hVq⟩ : ∃V,V=vl.getD 0 0:=⟨_,rfl⟩
    have v0:Z2.cell? ⟨gv,ov,none⟩=some (.int .i64 V):=by
     have h:=hSv.cell 0 (.int .i64 V) (by rw [Qg (show 0<vl.length by rw [hvlen];exact hn0),hVq,Ka (show 0<vl.length by rw [hvlen];exact hn0)]);rwa [Nat.add_zero] at h
    have HV:=hid hVq;have E2:=EZ.trans hE2;have hF2:=hid (hF.out.ext hE2);have hFl2:=hid (hFl.out.ext hE2);have hn0i:(0:Int)<(n:Int):=by omega
    have a0:=hE2.cell a0;have a1:=hE2.cell a1;have a2:=hE2.cell a2;clear hvlen hSv hvv hVq Hval Hok Hvv hF hFl hE2 EZ
    by_cases hV20:(20:Int)<V
    ·go_wp2_with fail;go_ret;exact ⟨rfl,E2⟩
    ·have wz:IntKind.i64.wrap z=z:=IntWalk.i64_in _ (by omega)
     by_cases hbad:z<1\/8<z
     ·have Hfb:=hid (KiA (s:=z) hF2.out.hP hF2.out.hPl hF2.out.hpr hF2.out.hM HB3.out hbad (HL.out.ext E2));go_wp2_with fail;refine Hfb.out.mono ?_;rintro e Z3 ⟨rfl,hE3⟩;have E3:=E2.trans hE3;have a1:=hE3.cell a1;clear Hfb hF2 hFl2 hE3 v0 a0 a2;go_wp2_with fail
      go_loopw [12,13] (λtv iv wr => ∃i:Nat,1<=i/\i<=m/\iv = .int .i64 i/\tv = .int .i64 (z^i)/\wr=Z3) (λ_ iv _=>m-(intOf iv).toNat)
      case atStart=>exact ⟨1,by omega,by omega,by go_num,by rw [KhJ],rfl⟩
      case round =>
       obtain ⟨i,hi1,hi,rfl,rfl,hwr⟩:=hrel;obtain rfl:=hwr.symm
       by_cases him:i<m
       ·have hii:(i:Int)<(m:Int):=by omega
        obtain rfl:i=1:=by omega
        have hzz:(z*z).natAbs<=9*9:=by rw [Int.natAbs_mul];exact Nat.mul_le_mul (by omega) (by omega)
        have wzz:IntKind.i64.wrap (z*z)=z*z:=IntWalk.i64_in _ (by omega);have hp1:z^1=z:=KhJ z;have hp2:z^2=z*z:=by rw [Int.pow_succ,Int.pow_succ,Int.pow_zero,Int.one_mul]
        rw [hp1];go_wp2_with fail;go_roundw
        case rel=>exact ⟨2,by omega,by omega,by go_num,by rw [hp2],by first | rfl | trivial⟩
        case measure=>simp [intOf]<;>omega
       ·obtain rfl:m=i:=by omega
        generalize z^m=zt at *
        rcases hbad with h1 | h8
        ·go_wp2_with fail;go_ret;exact ⟨rfl,E3⟩
        ·have h1 : ¬z<1:=by omega
         go_wp2_with fail;go_ret;exact ⟨rfl,E3⟩
     ·obtain ⟨s,rfl⟩ : ∃s:Nat,z=(s:Int):=⟨z.toNat,by omega⟩
      have hs0:1<=s:=by omega
      have hs8:s<=8:=by omega
      have Hfo:=hid (KkL (s:=s) hF2.out.hP hF2.out.hPl hF2.out.hpr hF2.out.hM HB3.out hs0 hs8 (HL.out.ext E2));have hV20':vl.getD 0 0<=20:=by rw [<-HV.out];omega
      obtain ⟨T,hT⟩ : ∃T,T=s^m:=⟨_,rfl⟩
      have HT:=hid hT;have hT64:T<=64:=by rw [hT];exact KoR hs8 hm2
      rw [show KfU Z2 n M vl s m=λe w' => ∃(v:Value) (D:Nat->Mx),e = .returned (.tuple #[v,.int .i64 0])/\KcR n M vl s m T D/\QP Z2.heap.size w' v (KC D T)/\Ext Z2 w' by rw [hT];rfl] at Hfo;clear hT hbad hz hz1 hz9 hcv;go_wp2_with fail;refine Hfo.out.mono ?_;rintro e Z3 ⟨lv,D1,rfl,hD1,hl1,hE3⟩
      obtain ⟨la,ln,lc,rfl⟩ : ∃a n c,lv = .slice a n c:=by
       obtain ⟨sa,gb,cap,vs,e,_⟩:=Ka8 hl1;exact ⟨_,_,_,e⟩
      have HD1:=hid hD1;have HL1:=hid hl1;have E3:=E2.trans hE3;have HFl:=hid (hFl2.out.ext hE3);have a1:=hE3.cell a1;clear Hfo hF2 hFl2 hE3 hD1 hl1 a0 a2 v0;go_wp2_with fail
      go_loopw [12,13] (λtv iv wr => ∃i:Nat,1<=i/\i<=m/\iv = .int .i64 i/\tv = .int .i64 (s^i:Nat)/\wr=Z3) (λ_ iv _=>m-(intOf iv).toNat)
      case atStart=>exact ⟨1,by omega,by omega,by go_num,by rw [Nat.pow_one],rfl⟩
      case round =>
       obtain ⟨i,hi1,hi,rfl,rfl,hwr⟩:=hrel;obtain rfl:=hwr.symm
       by_cases him:i<m
       ·have hii:(i:Int)<(m:Int):=by omega
        obtain rfl:i=1:=by omega
        obtain ⟨q,hq⟩ : ∃q,q=s^2:=⟨_,rfl⟩
        have hp:=KoR hs8 (show 2<=2 by omega);have hpi:(s:Int)*(s:Int)=(q:Int):=by rw [hq,Nat.pow_succ,Nat.pow_one];simp
        rw [<-hq] at hp;have hw:IntKind.i64.wrap ((s:Int)*(s:Int))=(q:Int):=by rw [hpi];exact IntWalk.i64_in _ (by omega)
        have Hq:=hid hq;rw [Nat.pow_one];clear hpi hq;go_wp2_with fail;go_roundw
        case rel=>exact ⟨2,by omega,by omega,by go_num,by rw [Hq.out],by first | rfl | trivial⟩
        case measure=>simp [intOf]<;>omega
       ·obtain rfl:m=i:=by omega
        rw [<-HT.out];have hsi0 : ¬(s:Int)<1:=by omega
        have hsi8 : ¬(8:Int)<(s:Int):=by omega
        have hTi : ¬(64:Int)<(T:Int):=by omega
        have hZs:=E3.size;have hbZ:b<Z3.heap.size:=World.block_lt_of_cell? _ _ HFl.out.c0;go_wp2_with fail
        go_loopw [14,15] (λvv kv wr => ∃(k:Nat) (D:Nat->Mx) (Q:List Rat) (v:Value),k<=T/\kv = .int .i64 k/\v=vv/\Hid (KcR n M vl s m k D)/\Hid (QP Z3.heap.size wr v (KC D k))/\Hid (Z3.grownBy wr (some go))/\Hid (FlW wr w.heap.size b go co gm cu n m cp sp Q M)/\Ext w wr/\Z3.heap.size<=wr.heap.size) (λ_ kv _=>T-(intOf kv).toNat)
        case atStart=>exact ⟨0,λ_=>[],O,_,by omega,by go_num,rfl,hid (λj hj=>absurd hj (by omega)),hid (QP.nil _ _),hid (QT (Ext.refl Z3) (some go)),HFl,E3,Nat.le_refl _⟩
        case round =>
         clear E3 a1;obtain ⟨k,D,Q,v,hk,rfl,rfl,hD,hbk,hbl,hFl,hE,hsz⟩:=hrel;generalize wr=X' at *
         by_cases hkT:k<T
         ·have hki:(k:Int)<(T:Int):=by omega
          have c2:=hFl.out.c2;have hFl0:=hid (show FlW X' w.heap.size b go co gm cu n m cp sp (ovL Q (YX s m k) m m) M by rw [<-Kk9 (YX s m k) hFl.out.ql];exact hFl.out);have hwm:IntKind.i64.wrap ((m:Int)-1)=(m:Int)-1:=IntWalk.i64_in _ (by omega);clear hFl;go_wp2_with fail
          go_loopw [16,17] (λrv iv wr => ∃j:Nat,j<=m/\iv = .int .i64 ((j:Int)-1)/\rv = .int .i64 (k/s^(m-j):Nat)/\Hid (FlW wr w.heap.size b go co gm cu n m cp sp (ovL Q (YX s m k) m j) M)/\Hid (QP Z3.heap.size wr v (KC D k))/\Hid (Z3.grownBy wr (some go))/\Ext w wr/\Z3.heap.size<=wr.heap.size) (λ_ iv _=>(intOf iv+1).toNat)
          case atStart=>exact ⟨m,by omega,by go_num,by simp,hFl0,hbk,hbl,hE,hsz⟩
          case round =>
           clear hFl0 hbk hbl hE hsz c2;obtain ⟨j,hj,rfl,rfl,hFl,hbk,hbl,hE,hsz⟩:=hrel;generalize wr=U at *
           rcases Nat.eq_zero_or_pos j with h0 | h0
           ·subst h0;have hneg : ¬(0:Int)<=((0:Nat):Int)-1:=by omega
            rw [KoN (Z6 s m k)] at hFl;obtain ⟨c0,c1,c2⟩:U.cell? ⟨b,0,none⟩=some (.slice sp n cp)/\U.cell? ⟨b,1,none⟩=some (.slice (some ⟨gm,0,none⟩) m cu)/\U.cell? ⟨b,2,none⟩=some (slv go m co):=⟨hFl.out.c0,hFl.out.c1,hFl.out.c2⟩
            have Hdg:=hid (Kf5 (w:=U) (sp:=sp) (cp:=cp) (vo:=slv go m co) HB3.out hFl.out.mt.mat (KoO hFl.out.of (Z6 s m k)) (by rw [Z6,Hml.out]) (λx hx=>(KhA hs0 hs8 x hx).mono (by omega)) (KhB hs0) hV20' (HL.out.ext hE));clear hneg;have hneg : ¬(0:Int)<=((0:Nat):Int)-1:=by omega
            go_wp2_with fail;refine Hdg.out.mono ?_;rintro e Y' ⟨dv,L,rfl,hLl,hDg,hMo,hE2⟩;obtain ⟨da,dn,dc,rfl⟩:=hMo.slice;have hLm:=hid hMo.mat;have hFl2:=hid (hFl.out.ext hE2);have hbk2:=hid (hbk.out.ext hE2);have hbl2:=hid (Kg hbl.out (QT hE2 (some go)));have hEY:=hE.trans hE2;have hsY:=Nat.le_trans hsz hE2.size;have Hmo:=hid (hMo.mono hsz);obtain ⟨sb,gb,cb,bs,hve,hbsl,hSb,hbm⟩:=Ka8 hbk2.out;obtain ⟨N,hN⟩ : ∃N,N=(KC D k).length:=⟨_,rfl⟩
            have hN64:N<=64:=by have:=JV D k;omega
            rw [hbsl,<-hN] at hve;have HSb:=hid hSb;have Hbm:=hid hbm;have Hbsl:=hid hbsl;have HN:=hid hN
            have hfl:=hid (show ∀F∈KC D k,F.length<=1000000 /\ ∀r∈F,r.length<=1000000 from λF hF=>by
             obtain ⟨j,hj,rfl⟩:=JW D k F hF;obtain ⟨h1,h2⟩:=hD.out j hj;have:=HB3.out.le;refine ⟨by omega,λr hr => ?_⟩;obtain ⟨q,hq,rfl⟩:=List.getElem_of_mem hr;obtain ⟨X',c',_,_,_,e⟩:=h2 q hq
             rw [e];simp;have:=HB3.out.hn;omega)
            have hD2:=hid (hD.out.step hLl hDg);have hst:=hid (KdJ (D:=D) (k:=k) (F:=L));subst hve;clear hSb hbm hbsl hN hMo hLl hDg hE2 hFl hbk hbl hE hsz Hdg c0 c1 c2;go_wp2_with fail
            go_loopw [19,20] (λqv iv wr => ∃i:Nat,i<=N/\iv = .int .i64 i/\qv = .bool (decide (L∈(KC D k).take i))/\Ext Y' wr) (λ_ iv _=>N-(intOf iv).toNat)
            case atStart=>exact ⟨0,by omega,by go_num,by simp,Ext.refl _⟩
            case round =>
             obtain ⟨i,hi,rfl,rfl,hE⟩:=hrel;generalize wr=V at *
             by_cases hiN:i<N
             ·have hii:(i:Int)<(N:Int):=by omega
              have hig:i<(KC D k).length:=by rw [<-HN.out];exact hiN
              have hib:i<bs.length:=by rw [Hbsl.out];exact hig
              have hmt:=hid (Km5 (F:=L) hig);obtain ⟨q,hq⟩ : ∃q,q=decide (L∈(KC D k).take i):=⟨_,rfl⟩
              rw [<-hq] at hmt ⊢;clear hq
              cases q
              ·have hbi:=Hbm.out i hig hib
               obtain ⟨si,ni,ci,hsi⟩ : ∃si ni ci,bs[i] = .slice si ni ci:=by
                obtain ⟨sa,_,_,cap,_,e,_⟩:=hbi;exact ⟨sa,_,cap,e⟩
               have x0:=hE.cell (HSb.out.cell i (.slice si ni ci) (by rw [List.getElem?_eq_getElem hib,hsi]));obtain rfl:=HSb.out.addr (by omega);rw [Nat.zero_add] at x0;rw [hsi] at hbi;have Hrw:=hid (Kei (w:=V) (hbi.ext hE) (hLm.out.ext hE) (hfl.out _ (List.getElem_mem hig)).1 (hfl.out _ (List.getElem_mem hig)).2);rw [Bool.false_or,Ka hig] at hmt;obtain ⟨q2,hq2⟩ : ∃q2,q2=decide ((KC D k)[i]=L):=⟨_,rfl⟩
               rw [<-hq2] at Hrw hmt;clear hq2 hbi hig hib hsi;go_wp2_with fail;refine Hrw.out.mono ?_;rintro e V2 ⟨rfl,hE3⟩;have hEn:=hE.trans hE3;clear Hrw x0 hE3 hE;go_wp2_with fail;go_roundw
               case rel=>exact ⟨i+1,by omega,by go_num,by rw [hmt.out],hEn⟩
               case measure=>simp [intOf]<;>omega
              ·rw [Bool.true_or] at hmt;clear hig hib;go_wp2_with fail;go_roundw
               case rel=>exact ⟨i+1,by omega,by go_num,by rw [hmt.out],hE⟩
               case measure=>simp [intOf]<;>omega
             ·obtain rfl:N=i:=by omega
              rw [List.take_of_length_le (by rw [<-HN.out];exact Nat.le_refl _)];have hFl3:=hid (hFl2.out.ext hE);have hbk3:=hid (hbk2.out.ext hE);have hbl3:=hid (Kg hbl2.out (QT hE (some go)));have hEV:=hEY.trans hE;have hsV:=Nat.le_trans hsY hE.size;have hmV:=hid (Hmo.out.ext hE);obtain ⟨q,hq⟩ : ∃q,q=decide (L∈KC D k):=⟨_,rfl⟩
              rw [<-hq];have Hq:=hid hq;clear hq hFl2 hbk2 hbl2 hEY hsY Hmo hE
              cases q
              ·have hst2:=hid (show KC (upD D k L) (k+1)=KC D k++[L] by rw [hst.out,if_neg (of_decide_eq_false Hq.out.symm)]);have hk2:=hid (show (V.alloc (.cells #[.slice da dn dc] 30)).cell? ⟨V.heap.size,0,none⟩=some (.slice da dn dc) by go_simp);have eB:Ext V (V.alloc (.cells #[.slice da dn dc] 30)):=(Ext.refl V).alloc _;have hbk4:=hid (hbk3.out.ext eB);have hm4:=hid (hmV.out.ext eB);clear hst Hq;go_wp2_with (at_builtin;refine KgG rfl _ _ rfl rfl hbk4.out rfl (b:=V.heap.size) (rv := .slice da dn dc) (F:=L) hk2.out hm4.out (by rw [<-HN.out];omega) (by simp;omega) ?_;intro g8 cap8 w8 hO8 hB8 hG8;rw [<-HN.out] at hO8 ⊢;rw [<-hst2.out] at hO8)
               have hF8:=hid ((hFl3.out.ext eB).app hbk4.out hG8 hbZ);have hR8:=hid (KkR (Kg hbl3.out (QT eB (some go))) hbk4.out hG8 (Nat.le_refl _));have hE8:Ext w w8:=Below.trans (hEV.trans eB) (hB8.mono hZs);have hs8:=Nat.le_trans (Nat.le_trans hsV eB.size) hB8.size;have HK:=hid hO8;clear hB8 hO8 hG8 hk2 eB hbk4 hm4 hFl3 hbk3 hbl3 hEV hsV hmV;go_wp2_with fail;go_roundw
               case rel=>exact ⟨k+1,upD D k L,_,_,by omega,by go_num,rfl,hD2,HK,hR8,hF8,hE8,hs8⟩
               case measure=>simp [intOf]<;>omega
              ·have hst2:=hid (show KC (upD D k L) (k+1)=KC D k by rw [hst.out,if_pos (of_decide_eq_true Hq.out.symm)]);have HK:=hid (show QP Z3.heap.size V (.slice sb N cb) (KC (upD D k L) (k+1)) by rw [hst2.out];exact hbk3.out);clear hst Hq;go_wp2_with fail;go_roundw
               case rel=>exact ⟨k+1,upD D k L,_,_,by omega,by go_num,rfl,hD2,HK,hbl3,hFl3,hEV,hsV⟩
               case measure=>simp [intOf]<;>omega
           ·obtain ⟨j1,hj1⟩ : ∃j1,j=j1+1:=⟨j-1,by omega⟩
            subst hj1;have hji:((j1+1:Nat):Int)-1=(j1:Int):=by omega
            rw [hji];obtain ⟨a,ha⟩ : ∃a,a=m-(j1+1):=⟨_,rfl⟩
            rw [<-ha];have hnx:k/s^a/s=k/s^(m-j1):=by rw [Nat.div_div_eq_div_mul,<-Nat.pow_succ,show m-j1=a.succ by omega]
            obtain ⟨R,hR⟩ : ∃R,R=k/s^a:=⟨_,rfl⟩
            rw [<-hR] at hnx ⊢;have hRk:R<=k:=by rw [hR];exact Nat.div_le_self _ _
            obtain ⟨r,hr⟩ : ∃r,r=R%s:=⟨_,rfl⟩
            have hrs:r<s:=by rw [hr];exact Nat.mod_lt _ hs0
            have hoV:((-(r:Int):Int):Rat)/((s:Int):Rat)=(YX s m k).getD j1 0:=by
             rw [Kb7 (by omega)];unfold KhC;rw [show m-1-j1=a by omega,<-hR,<-hr]
            obtain ⟨o',ho⟩ : ∃o',o'=(YX s m k).getD j1 0:=⟨_,rfl⟩
            have hOf:=hid (λW (hW:Ext U W)=>Kax (n := -(r:Int)) (d:=s) (w:=W) (by omega) (by omega) (by omega) (HL.out.ext (hE.trans hW)));rw [hoV,<-ho] at hOf;have Ho:=hid ho;have u2:=hFl.out.c2
            have m1:IntKind.i64.wrap ((R:Int).tmod (s:Int))=(r:Int):=by
             rw [Int.tmod_eq_emod_of_nonneg (by omega),hr];exact IntWalk.i64_in _ (by omega)
            have m2:IntKind.i64.wrap (-(r:Int)) = -(r:Int):=IntWalk.i64_in _ (by omega);have m2':IntKind.i64.wrap (0-(r:Int)) = -(r:Int):=by rw [Int.zero_sub];exact m2
            have hq0:(R:Int).tdiv (s:Int)=((R/s:Nat):Int):=by rw [Int.tdiv_eq_ediv_of_nonneg (by omega)];rfl
            obtain ⟨Q',hQ⟩ : ∃Q',Q'=R/s:=⟨_,rfl⟩
            rw [<-hQ] at hq0 hnx;have hQR:Q'<=R:=by rw [hQ];exact Nat.div_le_self _ _
            have m3:IntKind.i64.wrap ((R:Int).tdiv (s:Int))=(Q':Int):=by rw [hq0];exact IntWalk.i64_in _ (by omega)
            have m4:IntKind.i64.wrap ((j1:Int)-1)=(j1:Int)-1:=IntWalk.i64_in _ (by omega);have hj1m:(j1:Int)<(m:Int):=by omega
            have hs0i:((s:Int)==0)=false:=by simp;omega
            have hs0n : ¬(s:Int)=0:=by omega
            have hs0m : ¬s=0:=by omega
            have mr:(R:Int).tmod (s:Int)=(r:Int):=by rw [Int.tmod_eq_emod_of_nonneg (by omega),hr];rfl
            have M5:=hid (show IntKind.i64.wrap ((R:Int)/(s:Int))=(Q':Int) by rw [show (R:Int)/(s:Int)=(Q':Int) by rw [hQ];rfl];exact IntWalk.i64_in _ (by omega));have Hnx:=hid hnx;clear hR hr hoV ho hq0 hQ hnx ha hji;go_wp2_with fail;have d0:Ext U U.drew:=(Ext.refl U).drew;refine Z8 (S:=λW=>Ext U W) 13 14 (by kernel_rfl) (by kernel_rfl) ?_;generalize U.drew=Ud at *;refine Kc (i:=0) (v := .pointer (some ⟨b,2,none⟩)) rfl (by kernel_rfl) (λ_ _ _ h=>h) (.inl ⟨by rfl,λW hW=>by go_simp⟩) d0 ?_;go_simp;refine Kc (i:=1) (v:=slv go m co) rfl (by kernel_rfl) (λ_ _ _ h=>h) (.inl ⟨by rfl,λW hW=>by have y0:=hW.cell u2;go_simp⟩) d0 ?_;go_simp;refine Kc (i:=2) (v := .int .i64 j1) rfl (by kernel_rfl) (λ_ _ _ h=>h) (.inl ⟨by rfl,λW hW=>by go_simp⟩) d0 ?_;go_simp;refine Kc (i:=3) (v := .int .i64 R) rfl (by kernel_rfl) (λ_ _ _ h=>h) (.inl ⟨by rfl,λW hW=>by go_simp⟩) d0 ?_;go_simp;refine Kc (i:=4) (v := .int .i64 s) rfl (by kernel_rfl) (λ_ _ _ h=>h) (.inl ⟨by rfl,λW hW=>by go_simp⟩) d0 ?_;go_simp;refine Kc (i:=5) (v := .int .i64 r) rfl (by kernel_rfl) (λ_ _ _ h=>h) (.inl ⟨by rfl,λW hW=>by go_simp⟩) d0 ?_;go_simp;refine Kc (i:=6) (v := .int .i64 (-(r:Int))) rfl (by kernel_rfl) (λ_ _ _ h=>h) (.inl ⟨by rfl,λW hW=>by go_simp⟩) d0 ?_;go_simp;refine Kc (i:=7) (v := .int .i64 s) rfl (by kernel_rfl) (λ_ _ _ h=>h) (.inl ⟨by rfl,λW hW=>by go_simp⟩) d0 ?_;go_simp
            refine KA (i:=8) rfl (by kernel_rfl) (λK0 hK0 => ?_);go_simp;refine (hOf.out _ d0).mono ?_;rintro e V3 ⟨rfl,hGc⟩;have d1:=d0.trans hGc;refine hK0 _ _ (λ_=>d1) ?_;clear hK0;refine KA (i:=9) rfl (by kernel_rfl) (λK0 hK0 => ?_);go_simp;refine hK0 _ _ (λ_=>d1) ?_;clear hK0;refine Kc (i:=10) (v:=RV o') rfl (by kernel_rfl) (λ_ _ _ h=>h) (.inl ⟨by rfl,λW hW=>by go_simp⟩) d1 ?_;go_simp;refine Kc (i:=12) (v := .pointer (some ⟨go,j1*2,none⟩)) rfl (by kernel_rfl) (λ_ _ _ h=>h) (.inl ⟨by rfl,λW hW=>by go_simp⟩) d1 ?_;go_simp;obtain ⟨hF2,hb2,hE2,hkp,f0,f1,⟨z0,k0⟩,⟨z1,k1⟩⟩:=(hFl.out.ext d1).put (hbk.out.ext d1) (by omega) (hE.trans d1) (Nat.le_refl _);have hb3:=Kg (Kg hbl.out (QT d1 (some go))) hkp;rw [<-Ho.out] at hF2 hE2 hb2 hb3;have HF2:=hid hF2;have HE2:=hid hE2;have HK2:=hid hb2;have HK3:=hid hb3;have hs2:Z3.heap.size<=((V3.setCell ⟨go,j1*2,none⟩ (I o'.num)).setCell ⟨go,j1*2+1,none⟩ (I o'.den)).heap.size:=by simp;exact Nat.le_trans hsz d1.size
            clear hF2 hE2 hb2 hb3 hkp hFl hbk hbl hE hsz hOf u2;refine Jz (i:=11) (j:=13) rfl rfl (by kernel_rfl) (λK0 hK0 => ?_) (λK0 hK0 => ?_)
            ·go_simp;refine hK0 _ _ (λ_=>d1) ?_;clear hK0;refine KA (i:=13) rfl (by kernel_rfl) (λK0 hK0 => ?_);go_simp;refine hK0 _ _ (λhh=>by cases hh) ?_;clear hK0;refine QD (by kernel_rfl) ?_;go_wp2_with fail;go_roundw
             case rel=>exact ⟨j1,by omega,rfl,by rw [<-Hnx.out];exact congrArg (Value.int IntKind.i64) ((IntWalk.i64_left _).symm.trans M5.out),HF2,HK2,HK3,HE2.out,hs2⟩
             case measure=>simp [intOf]<;>omega
            ·go_simp;refine hK0 _ _ (λhh=>by cases hh) ?_;clear hK0;refine KA (i:=11) rfl (by kernel_rfl) (λK0 hK0 => ?_);go_simp;refine hK0 _ _ (λhh=>by cases hh) ?_;clear hK0;refine QD (by kernel_rfl) ?_;go_wp2_with fail;go_roundw
             case rel=>exact ⟨j1,by omega,rfl,by rw [<-Hnx.out];exact congrArg (Value.int IntKind.i64) ((IntWalk.i64_left _).symm.trans M5.out),HF2,HK2,HK3,HE2.out,hs2⟩
             case measure=>simp [intOf]<;>omega
         ·obtain rfl:T=k:=by omega
          have heq:KC D1 T=KC D T:=by
           have h1:=HD1.out;exact h1.uni HB3.out hD.out
          have hL1:=Kak HL1.out HFl.out.of (by decide) (by decide) (by decide) hbl.out;rw [heq] at hL1;obtain ⟨sb,gb,cb,bs,hve,hbsl,hSb,hbm⟩:=Ka8 hbk.out;obtain ⟨sl,gl,cl,ls,hle,hlsl,hSl,hlm⟩:=Ka8 hL1;obtain ⟨N,hN⟩ : ∃N,N=(KC D T).length:=⟨_,rfl⟩
          have hN64:N<=64:=by have:=JV D T;omega
          rw [hbsl,<-hN] at hve;rw [hlsl,<-hN] at hle;injection hle with l1 l2 l3
          subst l1;obtain rfl:=l2.symm;subst l3;subst hve;have HSb:=hid hSb;have HSl:=hid hSl;have Hbm:=hid hbm;have Hlm:=hid hlm;have Hbsl:=hid hbsl;have Hlsl:=hid hlsl;have HN:=hid hN
          have hfl:=hid (show ∀F∈KC D T,F.length<=1000000 /\ ∀r∈F,r.length<=1000000 from λF hF=>by
           obtain ⟨j,hj,rfl⟩:=JW D T F hF;obtain ⟨h1,h2⟩:=hD.out j hj;have:=HB3.out.le;refine ⟨by omega,λr hr => ?_⟩;obtain ⟨q,hq,rfl⟩:=List.getElem_of_mem hr;obtain ⟨X',c',_,_,_,e⟩:=h2 q hq
           rw [e];simp;have:=HB3.out.hn;omega)
          clear hSb hSl hbm hlm hbsl hlsl hN heq hL1 hbk hbl hFl hD HL1 HFl HD1;go_wp2_with fail
          go_loopw [21] (λiv wr => ∃i:Nat,i<=N/\iv = .int .i64 i/\Ext X' wr) (λiv _=>N-(intOf iv).toNat)
          case atStart=>exact ⟨0,by omega,by go_num,Ext.refl _⟩
          case round =>
           obtain ⟨i,hi,rfl,hE4⟩:=hrel;generalize wr=V at *
           by_cases hiN:i<N
           ·have hii:(i:Int)<(N:Int):=by omega
            have hig:i<(KC D T).length:=by rw [<-HN.out];exact hiN
            have hib:i<bs.length:=by rw [Hbsl.out];exact hig
            have hil:i<ls.length:=by rw [Hlsl.out];exact hig
            have hbi:=Hbm.out i hig hib;have hli:=Hlm.out i hig hil
            obtain ⟨si,ni,ci,hsi⟩ : ∃si ni ci,bs[i] = .slice si ni ci:=by
             obtain ⟨sa,_,_,cap,_,e,_⟩:=hbi;exact ⟨sa,_,cap,e⟩
            obtain ⟨ti,mi,di,hti⟩ : ∃si ni ci,ls[i] = .slice si ni ci:=by
             obtain ⟨sa,_,_,cap,_,e,_⟩:=hli;exact ⟨sa,_,cap,e⟩
            have x0:=hE4.cell (HSb.out.cell i (.slice si ni ci) (by rw [List.getElem?_eq_getElem hib,hsi]));have y0:=hE4.cell (HSl.out.cell i (.slice ti mi di) (by rw [List.getElem?_eq_getElem hil,hti]));obtain rfl:=HSb.out.addr (by omega);obtain rfl:=HSl.out.addr (by omega);rw [Nat.zero_add] at x0 y0;rw [hsi] at hbi;rw [hti] at hli;have Hrw:=hid (λW (hW:Ext V W)=>Kei ((hli.ext hE4).ext hW) ((hbi.ext hE4).ext hW) (hfl.out _ (List.getElem_mem hig)).1 (hfl.out _ (List.getElem_mem hig)).2);rw [decide_eq_true rfl] at Hrw;clear hbi hli hig hib hil hsi hti;go_wp2_with fail;have d0:Ext V V.drew:=(Ext.refl V).drew;refine Ke (S:=λW=>Ext V W) 9 (by kernel_rfl) (by simp) ?_;intro inv;generalize V.drew=Vd at *;refine tkS (i:=0) (v := .slice (some ⟨gl,0,none⟩) N lc) rfl d0 inv ?_;intro inv;go_simp;refine tkS (i:=1) (v := .int .i64 i) rfl d0 inv ?_;intro inv;go_simp;refine tkS (i:=2) (v := .pointer (some ⟨gl,i,none⟩)) rfl d0 inv ?_;intro inv;go_simp;refine tkA (i:=3) (v := .slice ti mi di) rfl (.inl ⟨by rfl,λW hW=>by have q0:=hW.cell y0;go_simp⟩) d0 inv ?_;intro inv;go_simp;refine tkS (i:=4) (v := .slice (some ⟨gb,0,none⟩) N cb) rfl d0 inv ?_;intro inv;go_simp;refine tkS (i:=5) (v := .int .i64 i) rfl d0 inv ?_;intro inv;go_simp;refine tkS (i:=6) (v := .pointer (some ⟨gb,i,none⟩)) rfl d0 inv ?_;intro inv;go_simp;refine tkA (i:=7) (v := .slice si ni ci) rfl (.inl ⟨by rfl,λW hW=>by have q0:=hW.cell x0;go_simp⟩) d0 inv ?_;intro inv;go_simp
            refine Kf (i:=8) rfl (by kernel_rfl) inv (λinv K0 hK0 => ?_);go_simp;refine (Hrw.out _ d0).mono ?_;rintro e V2 ⟨rfl,hGc⟩;have d1:=d0.trans hGc;refine hK0 _ _ d1 ?_;clear hK0 hGc;refine Ki (by kernel_rfl) ?_;have hEn:=hE4.trans d1;clear Hrw x0 y0 d1 hE4;go_wp2_with fail;go_roundw
            case rel=>exact ⟨i+1,by omega,by go_num,hEn⟩
            case measure=>simp [intOf]<;>omega
           ·obtain rfl:N=i:=by omega
            have hEf:=hE.trans hE4;go_wp2_with fail;go_ret;exact ⟨rfl,hEf⟩
end
end Go.Proofs.YtdmaofimeknkbaaGreatDoor
