/- Part 46 of the proof of the claim: contracts of the functions that it reaches, and plain laws; no condition. -/
import Derived.Test.YtdmaofimeknkbaaGreatDoorQ45
import Derived.Test.YtdmaofimeknkbaaGreatDoorQ43
import Derived.Test.YtdmaofimeknkbaaGreatDoorQ17
import Derived.Test.YtdmaofimeknkbaaGreatDoorQ36
set_option maxRecDepth 100000
set_option maxHeartbeats 20000000
namespace Go.Proofs.YtdmaofimeknkbaaGreatDoor
section
open Go.RowKit Go.Sort
open Lib (hid)
theorem Kak {B B':Nat} {w w':World} {T':TypeId} {size' n':Nat} {u v:Value} {G:List Mx} {ys:List Value} (h:QP B w u G) (h':w.ownsRow B' T' size' v n' ys) (h0:30≠T') (h1:38≠T') (h2:3≠T') (hg:w.grownBy w' v.ownBlock):QP B w' u G:=by
 obtain ⟨vs,k1,k2,k3⟩:=h;exact ⟨vs,k1,Ks k2 h' h0 hg,λt a b=>Kbm (k3 t a b) h' h1 h2 hg⟩
theorem Ka8 {B:Nat} {w:World} {v:Value} {G:List Mx} (h:QP B w v G) : ∃(sa:Option Addr) (gb cap:Nat) (vs:List Value),v = .slice sa vs.length cap/\vs.length=G.length/\Sl w sa gb 0 vs /\ ∀i (h:i<G.length) (h':i<vs.length),KJ w vs[i] G[i]:=by
 obtain ⟨vs,h1,h2,h3⟩:=h
 rcases h2.2 with ⟨rfl,h0⟩ | ⟨g,cap,cur,rfl,hb,hg,hn,hm,hs,ht⟩
 ·have:vs=[]:=List.eq_nil_of_length_eq_zero (by omega);subst this;exact ⟨none,0,0,[],rfl,h1,Sl.nil _ _ _ _,λi a b=>by simp at b⟩
 ·have ho:Kd 30 B w g cap vs:=by unfold Kd;rw [h1];exact h2
  exact ⟨some ⟨g,0,none⟩,g,cap,vs,by rw [h1],h1,ho.sl,λi a b=>(h3 i a b).mat⟩
theorem KnW {T:TypeId} {B:Nat} {w:World} {b:Nat} {xs:List Value} (hO:Kd T B w b 4 xs) (hl:xs.length=4) (hx : ∀v∈xs,∃a n c,v = .slice a n c) {g o:Nat} {z:Int} (hc:w.cell? ⟨g,o,none⟩=some (.int .i64 z)):g≠b:=λe=>by
 subst e;obtain ⟨cur,h1,h2,h3,h4,h5,h6⟩:=hO.parts;have hcur:cur.toList=xs:=by rw [<-h6,List.take_of_length_le (by rw [Array.length_toList,h5,hl];exact Nat.le_refl _)]
 have hk:cur[o]? = some (.int .i64 z):=by simpa [World.cell?,h2] using hc
 have hm:Value.int .i64 z∈xs:=by
  rw [<-hcur];rw [<-Array.getElem?_toList] at hk;exact List.mem_of_getElem? hk
 obtain ⟨_,_,_,h⟩:=hx _ hm
 cases h
theorem KlV {G:List Mx} {F:Mx}:JJ (λi=>decide (G.getD i []=F)) G.length=decide (F∈G):=by
 rw [Bool.eq_iff_iff,decide_eq_true_iff,JK];constructor
 ·rintro ⟨i,hi,h⟩;have h2:=of_decide_eq_true h;rw [Ka hi] at h2;rw [<-h2];exact List.getElem_mem hi
 ·intro h;obtain ⟨i,hi,rfl⟩:=List.getElem_of_mem h;exact ⟨i,hi,decide_eq_true (Ka hi _)⟩
theorem Kor {B g:Nat} {w:World} {l:List Rat} (h:FrV B w g (l.map λr=>qv (qR r))):SzO B w g l:=by
 unfold FrV at h;rw [List.length_map] at h;exact h
theorem KiR {T:TypeId} {B K:Nat} {w w':World} {g cap:Nat} {xs:List Value} (h:Kd T B w g cap xs) (hB:Below K w w') (hg:g<K):Kd T B w' g cap xs:=by
 obtain ⟨cur,h1,h2,h3,h4,h5,h6⟩:=h.parts;exact Kd.of h1 (by rw [hB.block g hg];exact h2) h3 h4 h5 h6
theorem KoR {s i:Nat} (hs:s<=8) (hi:i<=2):s^i<=64:=Nat.le_trans (Nat.pow_le_pow_left hs i) (Nat.le_trans (Nat.pow_le_pow_right (by omega) hi) (by decide))
def KfU (w:World) (n:Nat) (M:Mx) (vl:List Int) (s m:Nat) (e:Ending) (w':World):Prop :=
 ∃(v:Value) (D:Nat->Mx),e = .returned (.tuple #[v,.int .i64 0])/\KcR n M vl s m (s^m) D/\QP w.heap.size w' v (KC D (s^m))/\Ext w w'
structure KgE (w:World) (B K b go m:Nat) (vp vu vv:Value) (gv ov n:Nat) (vl:List Int) (O:List Rat) (j:Nat) (v:Value) (G:List Mx):Prop where
 wd:Kd 65 B w b 4 [vp,vu,slv go m m,vv]
 fr:FrV B w go (lyL O m j)
 bk:QP K w v G
 va : ∀i,i<n->w.cell? ⟨gv,ov+i,none⟩=some (.int .i64 (vl.getD i 0))
theorem KgE.ext {w w':World} {B K b go m gv ov n j:Nat} {vp vu vv v:Value} {vl:List Int} {O:List Rat} {G:List Mx} (h:KgE w B K b go m vp vu vv gv ov n vl O j v G) (he:Ext w w'):KgE w' B K b go m vp vu vv gv ov n vl O j v G :=
 ⟨h.wd.ext he,h.fr.ext he,h.bk.ext he,λi hi=>he.cell (h.va i hi)⟩
theorem KgE.put {w w0:World} {B K b go m gv ov n j:Nat} {vp vu vv v:Value} {vl:List Int} {O:List Rat} {G:List Mx} (h:KgE w B K b go m vp vu vv gv ov n vl O (j+1) v G) (hj:j<m) (hE:Ext w0 w) (hB:w0.heap.size<=B) (hvg:gv≠go) :
  KgE ((w.setCell ⟨go,j*2,none⟩ (I (O.getD j 0).num)).setCell ⟨go,j*2+1,none⟩ (I (O.getD j 0).den)) B K b go m vp vu vv gv ov n vl O j v G/\Ext w0 ((w.setCell ⟨go,j*2,none⟩ (I (O.getD j 0).num)).setCell ⟨go,j*2+1,none⟩ (I (O.getD j 0).den))/\w.frozen? ⟨go,j*2,none⟩=false/\w.frozen? ⟨go,j*2+1,none⟩=false/\(∃u,w.cell? ⟨go,j*2,none⟩=some u)/\(∃u,w.cell? ⟨go,j*2+1,none⟩=some u)/\w.cell? ⟨b,2,none⟩=some (slv go m m):=by
 obtain ⟨h1,g1,f0,f1⟩:=h.fr.set j (qv (qR (O.getD j 0)));have hjl:j<(lyL O m (j+1)).length:=by simpa using hj
 obtain ⟨c0,c1⟩:=h.fr.cells (List.getElem?_eq_getElem hjl);have hg:=(Kd.lt h.fr).1;obtain ⟨_,_,w2,_⟩:=Kdu h.wd;refine ⟨⟨Ks h.wd h.fr (by decide) g1,?_,Kak h.bk h.fr (by decide) (by decide) (by decide) g1,λi hi=>Kl g1 hvg (h.va i hi)⟩,Kb hE g1 (by omega),f0,f1,⟨_,c0⟩,⟨_,c1⟩,w2⟩;rw [Km3] at h1;exact h1
theorem KkL {w:World} {n cp m cu gm s:Nat} {sp:Option Addr} {P:List Int} {M:Mx} {vl:List Int} (hP:KT w (.slice sp n cp) P) (hPl:P.length=n) (hpr:KlP P) (hM:KJ w (.slice (some ⟨gm,0,none⟩) m cu) M) (hB:BkM n M vl) (hs0:1<=s) (hs8:s<=8) (hL:Laid w) :
  Calls Tryz.prog 7 #[.slice sp n cp,.slice (some ⟨gm,0,none⟩) m cu,.int .i64 s] w (KfU w n M vl s m):=by
 have Hsh:=hid (Kem (vo := .slice none 0 0) hP hPl hpr hM hB hL);have hn:=hB.hn;have hn0:0<n:=by omega
 have hml:m=M.length:=by
  obtain ⟨_,_,_,_,_,e,_⟩:=hM;injection e
 have hMl:=hB.len;have hm2:m<=2:=by omega
 have hm0:1<=m:=by omega
 have Hml:=hid hml;have HB:=hid hB;have HM:=hid hM;have HL:=hid hL;obtain ⟨i0,hi,hz0,hz1,hz2⟩:=info_parts Tryz.infoRat;have Hinf:=hid (And.intro hi (And.intro hz0 (And.intro hz1 hz2)));have hsi0 : ¬(s:Int)<1:=by omega
 have hsi8 : ¬(8:Int)<(s:Int):=by omega
 obtain ⟨T,hT⟩ : ∃T,T=s^m:=⟨_,rfl⟩
 have HT:=hid hT;have hT64:T<=64:=by rw [hT];exact KoR hs8 hm2
 rw [show KfU w n M vl s m=λe w' => ∃(v:Value) (D:Nat->Mx),e = .returned (.tuple #[v,.int .i64 0])/\KcR n M vl s m T D/\QP w.heap.size w' v (KC D T)/\Ext w w' by rw [hT];rfl];clear hP hPl hpr hM hB hL hn hml hMl hi hz0 hz1 hz2 hT
 go_enter Tryz.func7,Tryz.ntmps7
 go_wp2_with fail;refine Hsh.out.mono ?_;rintro e W1 ⟨b,vv,rfl,hO,hR,hE1⟩;obtain ⟨sv,gv,ov,cv,rfl,hcv,hSv⟩:=hR;have hvl:=HB.out.vlen;rw [hvl] at hcv hO;obtain rfl:=hSv.addr (by rw [Kq,hvl];exact hn0);have Hva:=hid (λi (hi:i<n)=>hSv.cell i (.int .i64 (vl.getD i 0)) (by rw [Qg (show i<vl.length by omega),Ka (show i<vl.length by omega)]))
 have hvb:=hid (KnW hO rfl (by
  intro v hv;simp only [List.mem_cons,List.not_mem_nil,or_false] at hv
  rcases hv with rfl | rfl | rfl | rfl<;>exact ⟨_,_,_,rfl⟩) (Hva.out 0 hn0))
 have HO:=hid hO;have Hvl:=hid hvl;have hbW:b<W1.heap.size:=(Kd.lt hO).2;have hE1s:=hE1.size;have hgvW:gv<W1.heap.size:=World.block_lt_of_cell? _ _ (Hva.out 0 hn0);clear Hsh hO hSv hvl;go_wp2_with fail
 go_loopw [10,35] (λcv' iv wr => ∃i:Nat,i<=m/\iv = .int .i64 i/\cv' = .int .i64 (s^i:Nat)/\wr=W1) (λ_ iv _=>m-(intOf iv).toNat)
 case atStart=>exact ⟨0,by omega,by go_num,by simp,rfl⟩
 case round =>
  obtain ⟨i,hi,rfl,rfl,hwr⟩:=hrel;obtain rfl:=hwr.symm
  by_cases him:i<m
  ·have hii:(i:Int)<(m:Int):=by omega
   have hp:=KoR hs8 (show i+1<=2 by omega);have hps:s^i*s=s^(i+1):=(Nat.pow_succ s i).symm;have hpi:((s^i:Nat):Int)*(s:Int)=((s^(i+1):Nat):Int):=by rw [<-hps];simp
   obtain ⟨q,hq⟩ : ∃q,q=s^(i+1):=⟨_,rfl⟩
   obtain ⟨q0,hq0⟩ : ∃q0,q0=s^i:=⟨_,rfl⟩
   rw [<-hq,<-hq0] at hpi;rw [<-hq] at hp;rw [<-hq0];have hw:IntKind.i64.wrap ((q0:Int)*(s:Int))=(q:Int):=by rw [hpi];exact IntWalk.i64_in _ (by omega)
   have hle : ¬(64:Int)<(q:Int):=by omega
   have Hq:=hid hq;clear hpi hps hq hq0;go_wp2_with fail;go_roundw
   case rel=>exact ⟨i+1,by omega,by go_num,by rw [Hq.out],by first | rfl | trivial⟩
   case measure=>simp [intOf]<;>omega
  ·obtain rfl:m=i:=by omega
   rw [<-HT.out];go_wp2_with fail
   go_loopw [11,44] (λvv kv wr => ∃(k:Nat) (D:Nat->Mx) (vo v:Value),k<=T/\kv = .int .i64 k/\v=vv/\Hid (KcR n M vl s m k D)/\Hid (Kd 65 w.heap.size wr b 4 [.slice sp n cp,.slice (some ⟨gm,0,none⟩) m cu,vo,.slice (some ⟨gv,ov,none⟩) n cv])/\Hid (QP W1.heap.size wr v (KC D k))/\Hid (∀i,i<n->wr.cell? ⟨gv,ov+i,none⟩=some (.int .i64 (vl.getD i 0)))/\Ext w wr/\W1.heap.size<=wr.heap.size) (λ_ kv _=>T-(intOf kv).toNat)
   case atStart=>exact ⟨0,λ_=>[],_,_,by omega,by go_num,rfl,hid (λj hj=>absurd hj (by omega)),HO,hid (QP.nil _ _),Hva,hE1,Nat.le_refl _⟩
   case round =>
    clear HO Hva hE1;obtain ⟨k,D,vo,v,hk,rfl,rfl,hD,hO,hbk,hva,hE,hsz⟩:=hrel;generalize wr=X at *
    by_cases hkT:k<T
    ·have hki:(k:Int)<(T:Int):=by omega
     obtain ⟨c0,c1,c2,c3⟩:=Kdu hO.out;have hbB:=(Kd.lt hO.out).1;go_upto_region 18 with (at_make;refine wpList_make_full _ rfl _ _ 32 rfl X.heap.size 47 i0 (.agg #[.string ⟨#[]⟩,.string ⟨#[]⟩]) 2 Tryz.underlying32 Hinf.out.1 Hinf.out.2.1 Hinf.out.2.2.1 .i64 .i64 _ _ m rfl rfl (by omega) (by omega) (by rw [Hinf.out.2.2.2];omega) (by unfold maxLen;omega) (Nat.le_refl _) ?_;intro w2 hown2 hgrow2;have hE2:Ext X w2:=KR hgrow2;have c2:=hE2.cell c2;have f2:=(hO.out.ext hE2).frozen 2)
     have hfr:=(KmM hown2 (by omega)).mono (B':=w.heap.size) hE.size;rw [Kk3 (YX s m k) m] at hfr;obtain ⟨s1,g1⟩:=(hO.out.ext hE2).set 2 (slv X.heap.size m m);have hFW:=hid (show KgE (w2.setCell ⟨b,2,none⟩ (slv X.heap.size m m)) w.heap.size W1.heap.size b X.heap.size m (.slice sp n cp) (.slice (some ⟨gm,0,none⟩) m cu) (.slice (some ⟨gv,ov,none⟩) n cv) gv ov n vl (YX s m k) m v (KC D k) from ⟨s1,Ks hfr (hO.out.ext hE2) (by decide) g1,Kak (hbk.out.ext hE2) (hO.out.ext hE2) (by decide) (by decide) (by decide) g1,λi hi=>Kl g1 hvb.out (hE2.cell (hva.out i hi))⟩);have hE3:=Kb (hE.trans hE2) g1 hbB;obtain ⟨go,hgo⟩ : ∃go,go=X.heap.size:=⟨_,rfl⟩
     have hsz3:W1.heap.size<=(w2.setCell ⟨b,2,none⟩ (slv X.heap.size m m)).heap.size:=Nat.le_trans hsz (Nat.le_trans hE2.size g1.size);have hvg:gv≠go:=by omega
     rw [<-hgo] at hFW hE3 hsz3 ⊢;clear hown2 hgrow2 hfr s1 g1 hE2 hO hbk hva hE c0 c1 c2 c3 f2 hgo hsz;generalize w2.setCell ⟨b,2,none⟩ (slv go m m)=W3 at *;have hwm:IntKind.i64.wrap ((m:Int)-1)=(m:Int)-1:=IntWalk.i64_in _ (by omega);go_wp2_with fail
     go_loopw [13,14] (λiv rv wr => ∃j:Nat,j<=m/\iv = .int .i64 ((j:Int)-1)/\rv = .int .i64 (k/s^(m-j):Nat)/\Hid (KgE wr w.heap.size W1.heap.size b go m (.slice sp n cp) (.slice (some ⟨gm,0,none⟩) m cu) (.slice (some ⟨gv,ov,none⟩) n cv) gv ov n vl (YX s m k) j v (KC D k))/\Ext w wr/\W1.heap.size<=wr.heap.size) (λiv _ _=>(intOf iv+1).toNat)
     case atStart=>exact ⟨m,by omega,by go_num,by simp,hFW,hE3,hsz3⟩
     case round =>
      clear hFW hE3 hsz3;obtain ⟨j,hj,rfl,rfl,hFW,hE,hsz⟩:=hrel;generalize wr=U at *
      rcases Nat.eq_zero_or_pos j with h0 | h0
      ·subst h0;have hneg : ¬(0:Int)<=((0:Nat):Int)-1:=by omega
       obtain ⟨c0,c1,c2,c3⟩:=Kdu hFW.out.wd
       have hsz2:SzR U (slv go m m) (YX s m k):=by
        have h:=hFW.out.fr;rw [KoH (Z6 s m k)] at h;have h2:=(Kor h).val.read;rwa [Z6] at h2
       have hrv:KT U (.slice (some ⟨gv,ov,none⟩) n cv) vl:=by
        rw [<-Hvl.out]
        exact ⟨_,gv,ov,cv,rfl,by rw [Hvl.out];exact hcv,⟨λ_=>rfl,λi x hx=>by
         have hi:i<vl.length:=by
          have:=(List.getElem?_eq_some_iff.1 hx).1;rwa [Kq] at this
         rw [Qg hi] at hx;injection hx with hx
         rw [<-hx,<-Ka hi 0]
         exact hFW.out.va i (by rw [<-Hvl.out];exact hi)⟩⟩
       have Hdg:=hid (KaK (w:=U) ⟨c0,c1,c2,c3,HM.out.ext hE,hsz2,hrv,by rw [Z6,Hml.out],KhA hs0 hs8,KhB hs0,HB.out⟩ (HL.out.ext hE));clear c0 c1 c2 c3 hsz2 hrv;go_wp2_with fail;refine Hdg.out.mono ?_;rintro e Y ⟨dv,L,rfl,hLl,hDg,hMo,hE2⟩;obtain ⟨da,dn,dc,rfl⟩:=hMo.slice;have hLm:=hMo.mat;have HFY:=hid (hFW.out.ext hE2);have hEY:=hE.trans hE2;have hsY:=Nat.le_trans hsz hE2.size;have Hmo:=hid (hMo.mono hsz);have eA:Ext Y (Y.alloc (.cells #[.slice da dn dc] 30)):=(Ext.refl Y).alloc _;have k15:(Y.alloc (.cells #[.slice da dn dc] 30)).cell? ⟨Y.heap.size,0,none⟩=some (.slice da dn dc):=by go_simp
       obtain ⟨sb,gb,cb,bs,hve,hbl,hSb,hbm⟩:=Ka8 HFY.out.bk;have HSb:=hid (hSb.ext eA)
       have Hcf:=hid (Kf2 (w:=Y.alloc (.cells #[.slice da dn dc] 30)) (b:=Y.heap.size) (cap:=cb) (p:=λi=>decide ((KC D k).getD i []=L)) HSb.out (by rw [hbl];have:=JV D k;omega) (λi hi W hW=>by
        have hi2:i<(KC D k).length:=by rw [<-hbl];exact hi
        rw [Ka hi2]
        have hfl : ∀F∈KC D k,F.length<=1000000 /\ ∀r∈F,r.length<=1000000:=λF hF=>by
         obtain ⟨j,hj,rfl⟩:=JW D k F hF;obtain ⟨h1,h2⟩:=hD.out j hj;have:=HB.out.le;refine ⟨by omega,λr hr => ?_⟩;obtain ⟨q,hq,rfl⟩:=List.getElem_of_mem hr;obtain ⟨X',c',_,_,_,e⟩:=h2 q hq;rw [e];simp;have:=HB.out.hn;omega
        exact KmC ((hbm i hi2 hi).ext (eA.trans hW)) (hW.cell k15) ((hLm.ext eA).ext hW) (hfl _ (List.getElem_mem hi2)).1 (hfl _ (List.getElem_mem hi2)).2))
       obtain ⟨N,hN⟩ : ∃N,N=(KC D k).length:=⟨_,rfl⟩
       have hN64:N<=64:=by have:=JV D k;omega
       rw [hbl,KlV,<-hN] at Hcf;rw [hbl,<-hN] at hve;have HNl:=hid hN;have hD2:=hid (hD.out.step hLl hDg);have hst:=hid (KdJ (D:=D) (k:=k) (F:=L));subst hve;clear hN hSb hbm HSb Hdg hMo hLm hLl hDg hE2 hFW hE hsz;go_upto_region 23 with fail;have hEZ:=hEY.trans eA;have hsZ:=Nat.le_trans hsY eA.size;have HFZ:=hid (HFY.out.ext eA);have HmZ:=hid (Hmo.out.ext eA);generalize hZ:Y.alloc (.cells #[.slice da dn dc] _)=Z at *;obtain ⟨b15,hb15⟩ : ∃b15,b15=Y.heap.size:=⟨_,rfl⟩
       rw [<-hb15] at Hcf k15 ⊢;clear hb15 hZ eA hEY hsY HFY Hmo;obtain ⟨q,hq⟩ : ∃q,q=decide (L∈KC D k):=⟨_,rfl⟩
       rw [<-hq] at Hcf;have Hq:=hid hq;clear hq
       cases q
       ·have hst2:=hid (show KC (upD D k L) (k+1)=KC D k++[L] by rw [hst.out,if_neg (of_decide_eq_false Hq.out.symm)]);clear hst Hq;go_wp2_with fail;refine Hcf.out.mono ?_;rintro e Z2 ⟨rfl,hE2⟩;have HF2:=hid (HFZ.out.ext hE2);have Hm2:=hid (HmZ.out.ext hE2);have hEn:=hEZ.trans hE2;have hsn:=Nat.le_trans hsZ hE2.size;have k15:=hE2.cell k15;have hk2:=hid (show (Z2.alloc (.cells #[.slice da dn dc] 30)).cell? ⟨Z2.heap.size,0,none⟩=some (.slice da dn dc) by go_simp);have eB:Ext Z2 (Z2.alloc (.cells #[.slice da dn dc] 30)):=(Ext.refl Z2).alloc _;have hbk2:=hid (HF2.out.bk.ext eB);have hm2:=hid (Hm2.out.ext eB);have hws:=hEn.size;clear Hcf HFZ HmZ hEZ hsZ hE2;go_wp2_with (at_builtin;refine KgG rfl _ _ rfl rfl hbk2.out rfl (b:=Z2.heap.size) (rv := .slice da dn dc) (F:=L) hk2.out hm2.out (by rw [<-HNl.out];omega) (by simp;omega) ?_;intro g8 cap8 w8 hO8 hB8 hG8;rw [<-HNl.out] at hO8 ⊢;rw [<-hst2.out] at hO8)
        have hEn8:Ext w w8:=Below.trans (hEn.trans eB) (hB8.mono hE1s);have hs8:=Nat.le_trans (Nat.le_trans hsn eB.size) hB8.size;have HW:=hid (KiR (HF2.out.wd.ext eB) hB8 hbW)
        have HV:=hid (show ∀i,i<n->w8.cell? ⟨gv,ov+i,none⟩=some (.int .i64 (vl.getD i 0)) from λi hi=>by
         rw [Below.cell hB8 hgvW];exact eB.cell (HF2.out.va i hi))
        have HK:=hid hO8;clear hG8 hB8 hO8 HF2 Hm2 hEn hsn k15 hk2 eB hbk2 hm2;go_wp2_with fail;go_roundw
        case rel=>exact ⟨k+1,upD D k L,_,_,by omega,by go_num,rfl,hD2,HW,HK,HV,hEn8,hs8⟩
        case measure=>simp [intOf]<;>omega
       ·have hst2:=hid (show KC (upD D k L) (k+1)=KC D k by rw [hst.out,if_pos (of_decide_eq_true Hq.out.symm)]);clear hst Hq;go_wp2_with fail;refine Hcf.out.mono ?_;rintro e Z2 ⟨rfl,hE2⟩;have HF2:=HFZ.out.ext hE2;have hEn:=hEZ.trans hE2;have hsn:=Nat.le_trans hsZ hE2.size;have HW:=hid HF2.wd;have HV:=hid HF2.va;have HK:=hid (show QP W1.heap.size Z2 (.slice sb N cb) (KC (upD D k L) (k+1)) by rw [hst2.out];exact HF2.bk);clear Hcf HFZ HmZ hEZ hsZ hE2 HF2;go_wp2_with fail;go_roundw
        case rel=>exact ⟨k+1,upD D k L,_,_,by omega,by go_num,rfl,hD2,HW,HK,HV,hEn,hsn⟩
        case measure=>simp [intOf]<;>omega
      ·obtain ⟨j1,hj1⟩ : ∃j1,j=j1+1:=⟨j-1,by omega⟩
       subst hj1;have hji:((j1+1:Nat):Int)-1=(j1:Int):=by omega
       rw [hji];obtain ⟨a,ha⟩ : ∃a,a=m-(j1+1):=⟨_,rfl⟩
       rw [<-ha];have hnx:k/s^a/s=k/s^(m-j1):=by rw [Nat.div_div_eq_div_mul,<-Nat.pow_succ,show m-j1=a.succ by omega]
       obtain ⟨R,hR⟩ : ∃R,R=k/s^a:=⟨_,rfl⟩
       rw [<-hR] at hnx ⊢;have hRk:R<=k:=by rw [hR];exact Nat.div_le_self _ _
       obtain ⟨r,hr⟩ : ∃r,r=R%s:=⟨_,rfl⟩
       have hrs:r<s:=by rw [hr];exact Nat.mod_lt _ hs0
       have hoV:((-(r:Int):Int):Rat)/((s:Int):Rat)=(YX s m k).getD j1 0:=by
        rw [Kb7 (by omega)];unfold KhC;rw [show m-1-j1=a by omega,<-hR,<-hr]
       obtain ⟨o,ho⟩ : ∃o,o=(YX s m k).getD j1 0:=⟨_,rfl⟩
       have hOf:=hid (λW (hW:Ext U W)=>Kax (n := -(r:Int)) (d:=s) (w:=W) (by omega) (by omega) (by omega) (HL.out.ext (hE.trans hW)));rw [hoV,<-ho] at hOf;have Ho:=hid ho;obtain ⟨_,_,u2,_⟩:=Kdu hFW.out.wd
       have m1:IntKind.i64.wrap ((R:Int).tmod (s:Int))=(r:Int):=by
        rw [Int.tmod_eq_emod_of_nonneg (by omega),hr];exact IntWalk.i64_in _ (by omega)
       have m2:IntKind.i64.wrap (-(r:Int)) = -(r:Int):=IntWalk.i64_in _ (by omega);have hq0:(R:Int).tdiv (s:Int)=((R/s:Nat):Int):=by rw [Int.tdiv_eq_ediv_of_nonneg (by omega)];rfl
       obtain ⟨Q,hQ⟩ : ∃Q,Q=R/s:=⟨_,rfl⟩
       rw [<-hQ] at hq0 hnx;have hQR:Q<=R:=by rw [hQ];exact Nat.div_le_self _ _
       have m3:IntKind.i64.wrap ((R:Int).tdiv (s:Int))=(Q:Int):=by rw [hq0];exact IntWalk.i64_in _ (by omega)
       have m4:IntKind.i64.wrap ((j1:Int)-1)=(j1:Int)-1:=IntWalk.i64_in _ (by omega);have hj1m:(j1:Int)<(m:Int):=by omega
       have hs0i:((s:Int)==0)=false:=by simp;omega
       have hs0n : ¬(s:Int)=0:=by omega
       have hs0m : ¬s=0:=by omega
       have mr:(R:Int).tmod (s:Int)=(r:Int):=by rw [Int.tmod_eq_emod_of_nonneg (by omega),hr];rfl
       have M5:=hid (show IntKind.i64.wrap ((R:Int)/(s:Int))=(Q:Int) by rw [show (R:Int)/(s:Int)=(Q:Int) by rw [hQ];rfl];exact IntWalk.i64_in _ (by omega));have Hnx:=hid hnx;clear hR hr hoV ho hq0 hQ hnx ha hji;go_wp2_with fail;have d0:Ext U U.drew:=(Ext.refl U).drew;refine Z8 (S:=λW=>Ext U W) 16 17 (by kernel_rfl) (by kernel_rfl) ?_;generalize U.drew=Ud at *;refine Kc (i:=0) (v := .pointer (some ⟨b,0,none⟩)) rfl (by kernel_rfl) (λ_ _ _ h=>h) (.inl ⟨by rfl,λW hW=>by go_simp⟩) d0 ?_;go_simp;refine Kc (i:=1) (v := .pointer (some ⟨b,0,none⟩)) rfl (by kernel_rfl) (λ_ _ _ h=>h) (.inl ⟨by rfl,λW hW=>by go_simp⟩) d0 ?_;go_simp;refine Kc (i:=2) (v := .pointer (some ⟨b,0,none⟩)) rfl (by kernel_rfl) (λ_ _ _ h=>h) (.inl ⟨by rfl,λW hW=>by go_simp⟩) d0 ?_;go_simp;refine Kc (i:=3) (v := .pointer (some ⟨b,2,none⟩)) rfl (by kernel_rfl) (λ_ _ _ h=>h) (.inl ⟨by rfl,λW hW=>by go_simp⟩) d0 ?_;go_simp;refine Kc (i:=4) (v:=slv go m m) rfl (by kernel_rfl) (λ_ _ _ h=>h) (.inl ⟨by rfl,λW hW=>by have y0:=hW.cell u2;go_simp⟩) d0 ?_;go_simp;refine Kc (i:=5) (v := .int .i64 j1) rfl (by kernel_rfl) (λ_ _ _ h=>h) (.inl ⟨by rfl,λW hW=>by go_simp⟩) d0 ?_;go_simp;refine Kc (i:=6) (v := .int .i64 R) rfl (by kernel_rfl) (λ_ _ _ h=>h) (.inl ⟨by rfl,λW hW=>by go_simp⟩) d0 ?_;go_simp
       refine Kc (i:=7) (v := .int .i64 s) rfl (by kernel_rfl) (λ_ _ _ h=>h) (.inl ⟨by rfl,λW hW=>by go_simp⟩) d0 ?_;go_simp;refine Kc (i:=8) (v := .int .i64 r) rfl (by kernel_rfl) (λ_ _ _ h=>h) (.inl ⟨by rfl,λW hW=>by go_simp⟩) d0 ?_;go_simp;refine Kc (i:=9) (v := .int .i64 (-(r:Int))) rfl (by kernel_rfl) (λ_ _ _ h=>h) (.inl ⟨by rfl,λW hW=>by go_simp⟩) d0 ?_;go_simp;refine Kc (i:=10) (v := .int .i64 s) rfl (by kernel_rfl) (λ_ _ _ h=>h) (.inl ⟨by rfl,λW hW=>by go_simp⟩) d0 ?_;go_simp;refine KA (i:=11) rfl (by kernel_rfl) (λK0 hK0 => ?_);go_simp;refine (hOf.out _ d0).mono ?_;rintro e V3 ⟨rfl,hGc⟩;have d1:=d0.trans hGc;refine hK0 _ _ (λ_=>d1) ?_;clear hK0;refine KA (i:=12) rfl (by kernel_rfl) (λK0 hK0 => ?_);go_simp;refine hK0 _ _ (λ_=>d1) ?_;clear hK0;refine Kc (i:=13) (v:=RV o) rfl (by kernel_rfl) (λ_ _ _ h=>h) (.inl ⟨by rfl,λW hW=>by go_simp⟩) d1 ?_;go_simp;refine Kc (i:=15) (v := .pointer (some ⟨go,j1*2,none⟩)) rfl (by kernel_rfl) (λ_ _ _ h=>h) (.inl ⟨by rfl,λW hW=>by go_simp⟩) d1 ?_;go_simp;obtain ⟨hF2,hE2,f0,f1,⟨z0,k0⟩,⟨z1,k1⟩,_⟩:=(hFW.out.ext d1).put (by omega) (hE.trans d1) (by omega) hvg;rw [<-Ho.out] at hF2 hE2;have HF2:=hid hF2;have HE2:=hid hE2;have hs2:W1.heap.size<=((V3.setCell ⟨go,j1*2,none⟩ (I o.num)).setCell ⟨go,j1*2+1,none⟩ (I o.den)).heap.size:=by simp;exact Nat.le_trans hsz d1.size
       clear hF2 hE2 hFW hE hsz hOf u2;refine Jz (i:=14) (j:=16) rfl rfl (by kernel_rfl) (λK0 hK0 => ?_) (λK0 hK0 => ?_)
       ·go_simp;refine hK0 _ _ (λ_=>d1) ?_;clear hK0;refine KA (i:=16) rfl (by kernel_rfl) (λK0 hK0 => ?_);go_simp;refine hK0 _ _ (λhh=>by cases hh) ?_;clear hK0;refine QD (by kernel_rfl) ?_;go_wp2_with fail
        go_quiet (fail)
        go_wp2_with fail;go_roundw
        case rel=>exact ⟨j1,by omega,rfl,by rw [<-Hnx.out];exact congrArg (Value.int IntKind.i64) ((IntWalk.i64_left _).symm.trans M5.out),hid (HF2.out.ext ((Ext.refl _).drewN _)),HE2.out.drewN _,hs2⟩
        case measure=>simp [intOf]<;>omega
       ·go_simp;refine hK0 _ _ (λhh=>by cases hh) ?_;clear hK0;refine KA (i:=14) rfl (by kernel_rfl) (λK0 hK0 => ?_);go_simp;refine hK0 _ _ (λhh=>by cases hh) ?_;clear hK0;refine QD (by kernel_rfl) ?_;go_wp2_with fail
        go_quiet (fail)
        go_wp2_with fail;go_roundw
        case rel=>exact ⟨j1,by omega,rfl,by rw [<-Hnx.out];exact congrArg (Value.int IntKind.i64) ((IntWalk.i64_left _).symm.trans M5.out),hid (HF2.out.ext ((Ext.refl _).drewN _)),HE2.out.drewN _,hs2⟩
        case measure=>simp [intOf]<;>omega
    ·obtain rfl:T=k:=by omega
     have hres:=hid (show ∀v,QP w.heap.size X v (KC D T) -> ∃(v':Value) (D:Nat->Mx),Ending.returned (.tuple #[v,.int .i64 0]) = .returned (.tuple #[v',.int .i64 0])/\KcR n M vl s m T D/\QP w.heap.size X v' (KC D T)/\Ext w X from λv h=>⟨v,D,rfl,hD.out,h,hE⟩);go_wp2_with fail;go_ret2;exact hres.out _ (hbk.out.mono hE1s)
theorem KiA {w:World} {n cp m cu gm:Nat} {s:Int} {sp:Option Addr} {P:List Int} {M:Mx} {vl:List Int} (hP:KT w (.slice sp n cp) P) (hPl:P.length=n) (hpr:KlP P) (hM:KJ w (.slice (some ⟨gm,0,none⟩) m cu) M) (hB:BkM n M vl) (hs:s<1\/8<s) (hL:Laid w) :
  Calls Tryz.prog 7 #[.slice sp n cp,.slice (some ⟨gm,0,none⟩) m cu,.int .i64 s] w λe w'=>e = .returned (.tuple #[.slice none 0 0,.int .i64 3])/\Ext w w':=by
 have Hsh:=hid (Kem (vo := .slice none 0 0) hP hPl hpr hM hB hL);clear hP hPl hpr hM hB hL
 by_cases h1:s<1
 ·clear hs
  go_enter Tryz.func7,Tryz.ntmps7
  go_wp2_with fail;refine Hsh.out.mono ?_;rintro e W1 ⟨b,vv,rfl,hO,hR,hE1⟩;clear Hsh hO hR;go_wp2_with fail;go_ret2;exact ⟨rfl,hE1⟩
 ·have h2:8<s:=by omega
  clear hs
  go_enter Tryz.func7,Tryz.ntmps7
  go_wp2_with fail;refine Hsh.out.mono ?_;rintro e W1 ⟨b,vv,rfl,hO,hR,hE1⟩;clear Hsh hO hR;go_wp2_with fail;go_ret2;exact ⟨rfl,hE1⟩
structure EuI (g v a b s t p q:Int):Prop where
 ha:s*g+t*v=a
 hb:p*g+q*v=b
 hd : ∀d:Int,d∣a->d∣b->d∣g/\d∣v
 h1:b.natAbs*s.natAbs+a.natAbs*p.natAbs<=v.natAbs
 h2:b.natAbs*t.natAbs+a.natAbs*q.natAbs<=g.natAbs
 hs:s.natAbs<=v.natAbs+1
 ht:t.natAbs<=g.natAbs
 hab:a.natAbs<=g.natAbs+v.natAbs
 hbb:b.natAbs<=v.natAbs
 a0:a≠0
theorem EuI.start {g v:Int} (h:g≠0):EuI g v g v 1 0 0 1 :=
 ⟨by omega,by omega,λ_ h1 h2=>⟨h1,h2⟩,by simp,by simp,by simp,by simp,by omega,Nat.le_refl _,h⟩
theorem Kmw {A B K R S P V:Nat} (hA:B*K+R=A) (h:B*S+A*P<=V):R*P+B*(S+K*P)<=V:=by
 subst hA;rw [Nat.add_mul,Nat.mul_assoc] at h;rw [Nat.mul_add];omega
theorem EuI.parts {g v a b s t p q:Int} (_h:EuI g v a b s t p q) (hb0:b≠0) : ∃K R:Nat,(a.tdiv b).natAbs=K/\(a-a.tdiv b*b).natAbs=R/\b.natAbs*K+R=a.natAbs/\R<b.natAbs:=by
 refine ⟨_,_,rfl,rfl,?_,?_⟩
 ·have h1:=Int.mul_tdiv_add_tmod a b;have h2:a-a.tdiv b*b=a.tmod b:=by rw [Int.mul_comm];omega
  rw [h2,Int.natAbs_tmod,Int.natAbs_tdiv];exact Nat.div_add_mod _ _
 ·have h1:=Int.mul_tdiv_add_tmod a b;have h2:a-a.tdiv b*b=a.tmod b:=by rw [Int.mul_comm];omega
  rw [h2,Int.natAbs_tmod];exact Nat.mod_lt _ (by omega)
theorem Kcv (s k p:Int):(s-k*p).natAbs<=s.natAbs+k.natAbs*p.natAbs:=by
 rw [<-Int.natAbs_mul];omega
theorem EuI.step {g v a b s t p q:Int} (h:EuI g v a b s t p q) (hb0:b≠0):EuI g v b (a-a.tdiv b*b) p q (s-a.tdiv b*p) (t-a.tdiv b*q):=by
 obtain ⟨K,R,hK,hR,hA,hlt⟩:=h.parts hb0;have hBp:0<b.natAbs:=by omega
 have hAp:0<a.natAbs:=by have:=h.a0;omega
 have hp:p.natAbs<=v.natAbs:=by
  have h1:=h.h1;have h2:1*p.natAbs<=a.natAbs*p.natAbs:=Nat.mul_le_mul_right _ hAp;omega
 have hq:q.natAbs<=g.natAbs:=by
  have h1:=h.h2;have h2:1*q.natAbs<=a.natAbs*q.natAbs:=Nat.mul_le_mul_right _ hAp;omega
 refine ⟨h.hb,?_,λd h1 h2 => ?_,?_,?_,by omega,hq,by have:=h.hbb;omega,by rw [hR];have:=h.hbb;omega,hb0⟩
 ·rw [<-h.ha,<-h.hb];grind
 ·refine h.hd d ?_ h1;have h3:a=(a-a.tdiv b*b)+a.tdiv b*b:=by omega
  rw [h3];exact Int.dvd_add h2 (Int.dvd_trans h1 (Int.dvd_mul_left _ _))
 ·rw [hR];have h3:=Kcv s (a.tdiv b) p;rw [hK] at h3;exact Nat.le_trans (Nat.add_le_add_left (Nat.mul_le_mul_left _ h3) _) (Kmw hA h.h1)
 ·rw [hR];have h3:=Kcv t (a.tdiv b) q;rw [hK] at h3;exact Nat.le_trans (Nat.add_le_add_left (Nat.mul_le_mul_left _ h3) _) (Kmw hA h.h2)
theorem EuI.small {g v a b s t p q:Int} (h:EuI g v a b s t p q) (hb0:b≠0) (hg:g.natAbs<=1000) (hv:v.natAbs<=1000) :
  a.natAbs<=2000/\b.natAbs<=1000/\(a.tdiv b).natAbs<=2000/\(a.tdiv b*b).natAbs<=2000/\(a.tdiv b*p).natAbs<=1000/\(a.tdiv b*q).natAbs<=1000/\s.natAbs<=1001/\t.natAbs<=1000/\p.natAbs<=1000/\q.natAbs<=1000:=by
 obtain ⟨K,R,hK,hR,hA,hlt⟩:=h.parts hb0;have hab:=h.hab;have hbb:=h.hbb;have hs:=h.hs;have ht:=h.ht;have hBp:0<b.natAbs:=by omega
 have hAp:0<a.natAbs:=by have:=h.a0;omega
 have hKA:K<=a.natAbs:=by
  have:1*K<=b.natAbs*K:=Nat.mul_le_mul_right _ hBp;omega
 have hp:p.natAbs<=v.natAbs:=by
  have h1:=h.h1;have h2:1*p.natAbs<=a.natAbs*p.natAbs:=Nat.mul_le_mul_right _ hAp;omega
 have hq:q.natAbs<=g.natAbs:=by
  have h1:=h.h2;have h2:1*q.natAbs<=a.natAbs*q.natAbs:=Nat.mul_le_mul_right _ hAp;omega
 refine ⟨by omega,by omega,by omega,?_,?_,?_,by omega,by omega,by omega,by omega⟩
 ·rw [Int.natAbs_mul,hK,Nat.mul_comm];omega
 ·rw [Int.natAbs_mul,hK];have h1:=h.h1;have h2:K*p.natAbs<=a.natAbs*p.natAbs:=Nat.mul_le_mul_right _ hKA;omega
 ·rw [Int.natAbs_mul,hK];have h1:=h.h2;have h2:K*q.natAbs<=a.natAbs*q.natAbs:=Nat.mul_le_mul_right _ hKA;omega
theorem EuI.fin {g v a s t p q:Int} (h:EuI g v a 0 s t p q):s*g+t*v=a/\a∣g/\a∣v/\a≠0/\s.natAbs<=v.natAbs+1/\t.natAbs<=g.natAbs/\a.natAbs<=g.natAbs+v.natAbs :=
 ⟨h.ha,(h.hd a (Int.dvd_refl a) (Int.dvd_zero a)).1,(h.hd a (Int.dvd_refl a) (Int.dvd_zero a)).2,h.a0,h.hs,h.ht,h.hab⟩
def pfM (x:List Int) (s:Int) (k:Nat):List Int:=(List.range x.length).map λt=>if t<k then x.getD t 0*s else x.getD t 0
@[simp] theorem Yn (x:List Int) (s:Int) (k:Nat):(pfM x s k).length=x.length:=by simp [pfM]
theorem Xb {x:List Int} {s:Int} {k t:Nat} (h:t<x.length):(pfM x s k).getD t 0=if t<k then x.getD t 0*s else x.getD t 0:=by
 unfold pfM;rw [List.getD_eq_getElem?_getD,List.getElem?_map,List.getElem?_range h];rfl
theorem KhG (x:List Int) (s:Int):pfM x s 0=x:=by
 refine KdL (by simp) λt ht => ?_
 rw [Xb (by simpa using ht),if_neg (by omega)]
theorem KhF {x:List Int} {s:Int} {k:Nat}:(pfM x s k).set k (x.getD k 0*s)=pfM x s (k+1):=by
 refine KdL (by simp) λt ht => ?_
 have htx:t<x.length:=by simpa using ht
 rw [Xb htx,Ka ht,List.getElem_set]
 by_cases e:k=t
 ·subst e;rw [if_pos rfl,if_pos (by omega)]
 ·rw [if_neg e,<-Ka (show t<(pfM x s k).length by simpa using htx),Xb htx];have:(t<k↔t<k+1):=by omega
  simp only [this]
structure EuX (v x:List Int) (n i:Nat) (g:Int):Prop where
 len:x.length=n
 far : ∀t,i<=t->x.getD t 0=0
 sum:KD (λk=>v.getD k 0*x.getD k 0) n=g
 dv : ∀t,t<i->g∣v.getD t 0
theorem Kez {f h:Nat->Int} {s e:Int} {i:Nat} (hi : ∀t,t≠i->f t=h t*s) (he:f i=h i*s+e) : ∀n,KD f n=KD h n*s+(if i<n then e else 0)
 | 0=>by simp [KD]
 | n+1=>by
  show KD f n+f n=(KD h n+h n)*s+_;rw [Kez hi he n,Int.add_mul]
  by_cases h1:n=i
  ·subst h1;rw [he,if_neg (by omega),if_pos (by omega)];omega
  ·rw [hi n h1]
   by_cases h2:i<n
   ·rw [if_pos h2,if_pos (by omega)];omega
   ·rw [if_neg h2,if_neg (by omega)];omega
theorem EuX.next {v x:List Int} {n i:Nat} {g a s t:Int} (h:EuX v x n i g) (hi:i<n) (h1:s*g+t*v.getD i 0=a) (h2:a∣g) (h3:a∣v.getD i 0):EuX v ((pfM x s i).set i t) n (i+1) a:=by
 have hlen:((pfM x s i).set i t).length=n:=by simp [h.len]
 have hat : ∀k,((pfM x s i).set i t).getD k 0=if k=i then t else x.getD k 0*(if k<i then s else 1):=λk=>by
  by_cases hk:k<n
  ·have hk2:k<((pfM x s i).set i t).length:=by rw [hlen];exact hk
   rw [Ka hk2,List.getElem_set]
   by_cases e:i=k
   ·rw [if_pos e,if_pos e.symm]
   ·rw [if_neg e,if_neg (λh=>e h.symm),<-Ka (show k<(pfM x s i).length by rw [Yn,h.len];exact hk),Xb (by rw [h.len];exact hk)];split<;>simp
  ·rw [List.getD_eq_getElem?_getD,List.getElem?_eq_none (by rw [hlen];omega),if_neg (by omega),h.far k (by omega)];simp
 refine ⟨hlen,λk hk => ?_,?_,λk hk => ?_⟩
 ·rw [hat,if_neg (by omega),h.far k (by omega)];simp
 ·have e1 : ∀k,k≠i->v.getD k 0*((pfM x s i).set i t).getD k 0=v.getD k 0*x.getD k 0*s:=λk hk=>by
   rw [hat,if_neg hk]
   by_cases h4:k<i
   ·rw [if_pos h4,Int.mul_assoc]
   ·rw [h.far k (by omega)];simp
  have e2:v.getD i 0*((pfM x s i).set i t).getD i 0=v.getD i 0*x.getD i 0*s+v.getD i 0*t:=by
   rw [hat,if_pos rfl,h.far i (by omega)];simp
  rw [Kez (f:=λk=>v.getD k 0*((pfM x s i).set i t).getD k 0) (h:=λk=>v.getD k 0*x.getD k 0) (s:=s) (e:=v.getD i 0*t) (i:=i) e1 e2 n,h.sum,if_pos hi,<-h1]
  grind
 ·rcases Nat.lt_or_ge k i with h4 | h4
  ·exact Int.dvd_trans h2 (h.dv k h4)
  ·obtain rfl:k=i:=by omega
   exact h3
end
end Go.Proofs.YtdmaofimeknkbaaGreatDoor
