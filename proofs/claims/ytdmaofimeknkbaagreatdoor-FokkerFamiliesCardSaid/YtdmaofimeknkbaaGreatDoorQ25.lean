/- Part 25 of the proof of the claim: contracts of the functions that it reaches, and plain laws; no condition. -/
import Derived.Test.YtdmaofimeknkbaaGreatDoorQ21
import Derived.Test.YtdmaofimeknkbaaGreatDoorQ24
import Derived.Test.YtdmaofimeknkbaaGreatDoorQ22
import Derived.Test.YtdmaofimeknkbaaGreatDoorQ13
import Derived.Test.YtdmaofimeknkbaaGreatDoorQ12
import Derived.Test.YtdmaofimeknkbaaGreatDoorQ11
set_option maxRecDepth 100000
set_option maxHeartbeats 20000000
namespace Go.Proofs.YtdmaofimeknkbaaGreatDoor
section
open Go.RowKit Go.Sort
open Lib (hid)
theorem Lr.lgsTake {B:Nat} {w:World} {g cap N n d:Nat} {ad:List (Nat×Nat)} {ls:List Ln} (h:Lr B w g cap N n ad ls) (hn:0<n) (hd:d<=N) (hcap:d<=cap):KaF w (slv g d cap) (Za d ls):=by
 have hl:(Za d ls).length=d:=XS (by rw [h.len];exact hd);have hO:=h.grl.outer;have hal:ad.length=N:=by rw [h.grl.len,Kj,h.len]
 refine ⟨_,g,0,cap,(hdV ad (KQ ls)).take d,by rw [hl],by rw [hl];exact hcap,by rw [hl,List.length_take,K5 _ _ h.grl.len,Kj,h.len];omega,hO.sl.take d,λi hi hi' => ?_⟩;rw [hl] at hi;have hir:i<(KQ ls).length:=by rw [Kj,h.len];omega
 have hg:=XT ad (KQ ls) i (by omega) hir;obtain ⟨_,he⟩:=List.getElem?_eq_some_iff.1 hg;rw [List.getElem_take,he];have hrl:(KQ ls)[i].length=n:=h.rect _ (List.getElem_mem hir);have hrow:=h.gr.row i hir (by omega) (by omega)
 have hf:(Za d ls)[i]'(by rw [hl];exact hi)=(KQ ls)[i]:=by
  rw [KbX hi (by rw [h.len];exact hd),<-Qs,Ka hir]
 rw [hf,Qo (by omega)];exact hrow.intsR rfl
theorem KlZ : ∀(n k:Fin 5),2*(2*bC n.val 30 (k.val+n.val)+2)+2<LIM:=by decide +kernel
theorem KoB {c:Nat} {H:Mx} {P:Int->Prop} (h : ∀r∈H,∀z∈r,P z) (h0:P 0) (i j:Nat):P (eM (krn c H) i j):=by
 show P (((krn c H).getD i []).getD j 0);rw [List.getD_eq_getElem?_getD (l:=krn c H)]
 cases e:(krn c H)[i]? with
 | none=>exact h0
 | some r =>
  show P (r.getD j 0);rw [List.getD_eq_getElem?_getD]
  cases e2:r[j]? with
  | none=>exact h0
  | some z =>
   show P z;obtain ⟨hi,rfl⟩:=List.getElem?_eq_some_iff.1 e;obtain ⟨hj,rfl⟩:=List.getElem?_eq_some_iff.1 e2;have hm:=List.getElem_mem hi;unfold krn low at hm;obtain ⟨s,hs,hse⟩:=List.mem_map.1 hm
   have h2:(krn c H)[i][j]∈List.drop c s:=by
    have:=List.getElem_mem hj;rw [hse];exact this
   exact h s (List.mem_filter.1 hs).1 _ (List.mem_of_mem_drop h2)
theorem Ko5 {n:Nat} {M:Mx} {P:Int->Prop} (h : ∀r∈M,∀z∈r,P z) (h0:P 0) : ∀r∈trM n M,∀z∈r,P z:=λr hr z hz=>by
 obtain ⟨c,_,rfl⟩:=List.mem_map.1 hr;obtain ⟨s,hs,rfl⟩:=List.mem_map.1 hz;rw [List.getD_eq_getElem?_getD]
 cases e:s[c]? with
 | none=>simpa using h0
 | some z =>
  obtain ⟨hc,rfl⟩:=List.getElem?_eq_some_iff.1 e;simpa using h s hs _ (List.getElem_mem hc)
theorem Kjn {n k:Nat} {A:Mx} (hA:Ku k A) (hn:A.length=n):Ku (k+n) (KY A):=λr hr=>by
 obtain ⟨i,hi,rfl⟩:=List.getElem_of_mem hr;have hi':i<A.length:=by simpa using hi
 rw [Yc hi',List.length_append,hA _ (List.getElem_mem hi')];simp [KO,hn]
def KpD (w:World) (M:Mx) (n:Nat) (e:Ending) (w':World):Prop := ∃v' K,e = .returned v'/\KaF w' v' K/\KaO n (KF M) K/\Ext w w'
theorem Khs {w : World} {v : Value} {M : Mx} {n : Nat} (hM : KaF w v M) (hR : Ku n M) (h0 : 0 < n) (hn : n <= 4) (hl : M.length <= 4) (hent : ∀r ∈ M, ∀z ∈ r, -1000000000 <= z /\ z <= 1000000000) (hL : Laid w) :
    Calls Tryz.prog 60 #[v,.int .i64 n] w (KpD w M n):=by
  obtain ⟨sa,gb,go,cap,vs,rfl,hcap,hvl,hS,hr⟩:=hM;have HS:=hid hS;have HV:=hid hvl;have HR:=hid hr;have HRe:=hid hR;have HL:=hid hL;obtain ⟨k,hk⟩ : ∃k,k=M.length:=⟨_,rfl⟩
  obtain ⟨A,hA⟩ : ∃A,A=trM n M:=⟨_,rfl⟩
  have hAr:Ku k A:=by rw [hA,hk];exact Kh8 n M
  have hAl:A.length=n:=by rw [hA];simp
  have HAl:=hid hAl;have HAr:=hid hAr;have HA:=hid hA;have HAe:=hid (show ∀r∈A,∀z∈r,-1000000000<=z/\z<=1000000000 by rw [hA];exact Ko5 hent (by omega));have Hk:=hid hk
  have HAg:=hid (show ∀c (h:c<A.length),A[c]=M.map λr=>r.getD c 0 from λc h=>by
    subst hA
    exact Kkj M (by simpa using h))
  rw [<-hk] at hl hcap ⊢;clear hS hvl hr hR hL hA hAl hAr hent hk
  go_enter Tryz.func60,Tryz.ntmps60
  go_wp2_with fail
  go_loopw [5,12] (λwv idx wr => ∃(c:Nat) (ad:List (Nat×Nat)),c<=n/\idx = .int .i64 c/\Hid (LrX w.heap.size wr wv ((KY A).take c) ad)/\Ext w wr) (λ_ idx _=>n-(intOf idx).toNat)
  case atStart=>exact ⟨0,[],by omega,by go_num,hid (LrX.nil _ _),Ext.refl _⟩
  case round =>
    obtain ⟨c,ad,hc,rfl,hW,hE⟩:=hrel;generalize wr=X at *
    by_cases hlt:c<n
    · have hci:(c:Int)<(n:Int):=by omega
      have hcA:c<A.length:=by rw [HAl.out];exact hlt
      obtain ⟨R,hRr⟩ : ∃R,R=A[c]:=⟨_,rfl⟩
      have HRl:=hid (show R.length=k by rw [hRr];exact HAr.out _ (List.getElem_mem hcA));have HRg:=hid (show R=M.map λr=>r.getD c 0 by rw [hRr];exact HAg.out c hcA);have Hwg:=hid (show (KY A).take (c+1)=(KY A).take c++[R++KO n c] by rw [Zh (by simpa using hcA),Yc hcA,HAl.out,hRr]);have Hwl:=hid (show ((KY A).take c).length=c by rw [List.length_take];simp;omega);have Hlt:=hid hW.out.lt;have hXw:=hE.size;clear hRr hcA;go_wp2_with fail
      go_loopw [7,17] (λrv jdx wr => ∃j:Nat,j<=k/\jdx = .int .i64 j/\Hid (KW X.heap.size wr rv (R.take j))/\Ext X wr) (λ_ jdx _=>k-(intOf jdx).toNat)
      case atStart=>exact ⟨0,by omega,by go_num,hid (KW.nil _ _),Ext.refl _⟩
      case round =>
        obtain ⟨j,hj,rfl,hO,hE2⟩:=hrel;generalize wr=Y at *
        by_cases hjl:j<k
        · have hji:(j:Int)<(k:Int):=by omega
          have hjM:j<M.length:=by rw [<-Hk.out];exact hjl
          obtain rfl:=HS.out.addr (by rw [HV.out];omega);obtain ⟨sr,br,or,cr,hrow,hrc,hSr⟩:=KaF.row HS.out HV.out HR.out hjM;have hrl:M[j].length=n:=HRe.out _ (List.getElem_mem hjM);obtain rfl:=hSr.addr (by rw [Kx,hrl];exact h0);rw [hrl] at hrow hrc;have hrow':=(hE.trans hE2).cell hrow;obtain ⟨z,hz⟩ : ∃z,z=M[j].getD c 0:=⟨_,rfl⟩
          have hcz:=(hE.trans hE2).cell (hSr.cell c (I z) (by rw [hz];simp [ss,hrl,hlt]));have Hjl:=hid (show (R.take j).length=j by rw [List.length_take,HRl.out];omega)
          have Hsj:=hid (show R.take (j+1)=R.take j++[z] by
            rw [List.take_succ_eq_append_getElem (by rw [HRl.out];exact hjl),hz]
            congr 2
            have:=HRg.out;subst this
            simp)
          have hYs:=hE2.size;clear hrow hSr hz hjM hrl;go_wp2_with (at_builtin;refine Kjw rfl _ _ rfl rfl (hO.out.ext ((Ext.refl _).alloc _)) rfl (b:=Y.heap.size) (z:=z) (by go_simp) (by rw [Hjl.out];omega) (by simp;omega) ?_;intro gg cap2 w8 hO8 hB8 hG8;rw [Hjl.out] at hO8 ⊢;rw [<-Hsj.out] at hO8)
          have hE8:Ext X w8:=Below.trans (hE2.alloc (.cells #[I z] 45)) hB8;have HO8:=hid hO8;clear hG8 hB8 hO8;go_wp2_with fail;go_roundw
          case rel=>exact ⟨j+1,by omega,by go_num,HO8,hE8⟩
          case measure=>simp [intOf]<;>omega
        · have hje:j=k:=by omega
          have HO:=hid (show KW X.heap.size Y u7 R by have:=hO.out;rw [hje,List.take_of_length_le (by rw [HRl.out];exact Nat.le_refl _)] at this;exact this);have hzr:=hid (KlI (w:=Y) (n:=n) (by omega) (HL.out.ext (hE.trans hE2)));have hYs:=hE2.size;clear hO hje;go_wp2_with fail;refine hzr.out.mono ?_;rintro e W1 ⟨gy,cy,rfl,hY,hE3⟩;have hYb:=hY.lt;have hY1:=hY.cell (j:=c) (by simpa using hlt);have hY2:=hY.frozen c;obtain ⟨hY3,hG3⟩:=hY.set c (I 1);have hz49:I 1 = .string ⟨#[49]⟩:=by unfold I S;rw [show (1:Int)=((1:Nat):Int) from rfl,Yk,Lib.decDigits];rfl
          rw [<-Xr] at hY3;rw [hz49] at hY3 hG3;have hE4:Ext X (W1.setCell ⟨gy,c,none⟩ (.string ⟨#[49]⟩)):=Kb (hE2.trans hE3) hG3 (by omega);have HY:=hid (show Kd 45 Y.heap.size (W1.setCell ⟨gy,c,none⟩ (.string ⟨#[49]⟩)) gy cy (ss (KO n c)) from hY3);have HOr:=hid (show KW X.heap.size (W1.setCell ⟨gy,c,none⟩ (.string ⟨#[49]⟩)) u7 R from HO.out.ext (Kb hE3 hG3 hYb.1));have hun:(KO n c).length=n:=by simp [KO]
          have Hun:=hid hun;have hsz:=hE4.size;rw [List.length_replicate];clear hY hY3 hG3 hE3 hzr HO hun
          have HNews:=hid (show ∀(j:Nat) (u:Value),(ss (KO n c))[j]? = some u->(W1.setCell ⟨gy,c,none⟩ (.string ⟨#[49]⟩)).cell? ((⟨gy,0,none⟩:Addr).add j)=some u from λj u hj=>by
            have h2:=HY.out.sl.cell j u hj
            simpa [Addr.add_lit] using h2)
          go_wp2_with (first
            | (at_builtin;refine KgJ rfl _ _ rfl rfl HOr.out (ad:=⟨gy,0,none⟩) (c:=cy) (q:=KO n c) (by rw [Hun.out];rfl) HNews.out (by rw [Hun.out];exact h0) (by rw [Hun.out,HRl.out];omega) hsz ?_;intro gg cap6 w6 hO6 hB6 hG6 hat6;rw [HRl.out,Hun.out] at hO6 ⊢;have hE6:Ext X w6:=Below.trans hE4 hB6;have HO6:=hid (Kfi hO6 (by rw [List.length_append,HRl.out,Hun.out]));have hs6:=hE6.size;have hEw:=hE.trans hE6)
            | (at_builtin;refine Ke5 rfl _ _ rfl (B := w.heap.size) rfl ((hW.out.ext hE6).ext ((Ext.refl _).alloc _)) rfl (b := w6.heap.size) (r := R ++ KO n c) (g0 := gg) (c0 := cap6) (by rw [List.length_append, HRl.out, Hun.out, Qo (by omega)];go_simp) (λ_ => (HO6.out.mono hXw).ext ((Ext.refl _).alloc _)) (λ_ i a b d => by
                have h1:=HO6.out.lt.1;have h2:=(Hlt.out i a b d).2
                omega) (by rw [Hwl.out];omega) (by simp;omega) ?_;intro gg2 cap2 w8 hO8 hB8 hG8;rw [Hwl.out,<-Hwg.out] at hO8;rw [Hwl.out]))
          have hE8:Ext w w8:=Below.trans (hEw.alloc (.cells #[slv gg (k+n) cap6] 152)) hB8;have HO8:=hid hO8;clear hG8 hB8 hO8;go_wp2_with fail;go_roundw
          case rel=>exact ⟨c+1,_,by omega,by go_num,HO8,hE8⟩
          case measure=>simp [intOf]<;>omega
    · have hce:c=n:=by omega
      have hWl:(KY A).length=n:=by simp [HAl.out]
      have HW:=hid (show LrX w.heap.size X u5 (KY A) ad by have:=hW.out;rw [hce,List.take_of_length_le (by omega)] at this;exact this);obtain ⟨ga,capw,hv,hcw,hga⟩:=HW.out.shape;obtain ⟨gw,rfl⟩:=hga (by omega);rw [hWl] at hv hcw;subst hv;have hrect:=Kjn HAr.out HAl.out;have hG:Lr w.heap.size X gw capw n (k+n) ad (ln1 (KY A)):=⟨by rw [Kcd];exact HW.out,by rw [KdU];exact hWl,Kdc hrect⟩
      have hbc:=KlZ ⟨n,by omega⟩ ⟨k,by omega⟩;have hlf:=Kfk (w0:=w) (w:=X) hG h0 (by omega) (by omega) (by omega) hcw (Kii HAe.out) hbc HL.out hE;rw [show ((k+n:Nat):Int)=(k:Int)+(n:Int) by omega] at hlf;have Hlf:=hid hlf;have Hrect:=hid hrect;have HG:=hid hG;clear hW hlf hG hrect hWl hbc;go_wp2_with fail;refine Hlf.out.mono ?_;rintro e W1 ⟨d,ps,ad',ls',rfl,hd,hG1,hF,hOp,hAl,hE1⟩;have hH:Zs (k+n) (KY A) (Za d ls'):=Kbg Hrect.out hOp hF;have hdc:d<=capw:=by omega
      have hlg:=hG1.lgsTake (d:=d) (by omega) hd hdc;have hfl:(Za d ls').length=d:=XS (by rw [hG1.len];exact hd);have hI:=hF.isH hG1.dim
      have hHe : ∀r∈Za d ls',∀z∈r,z.natAbs<2^bC n 30 (k+n):=λr hr z hz=>by
        obtain ⟨l,hl2,rfl⟩:=List.mem_map.1 hr;obtain ⟨i,hi,rfl⟩:=List.getElem_of_mem hl2;have hi2:i<ls'.length:=by have:=hi;simp at this;omega
        have:=hAl i hi2;rw [Ka hi2] at this;exact this.1 z (by rw [List.getElem_take] at hz;exact hz)
      have hHM:Zs (M.length+n) (KY (trM n M)) (Za d ls'):=by rw [<-Hk.out,<-HA.out];exact hH
      have hKer:=Khl hHM;rw [<-Hk.out] at hKer;obtain ⟨qs,hq⟩:=hKer.1;have hbc:=KlZ ⟨n,by omega⟩ ⟨k,by omega⟩
      have hbh:=Kio (w:=W1) (c:=k) (m:=n) hlg hI.rect (λr hr=>by
        obtain ⟨i,hi,rfl⟩:=List.getElem_of_mem hr;have h1:=hI.pvs hi;rw [Ka hi] at h1;have h2:=hI.lt i hi;unfold pvI;have h3:pv (Za d ls')[i]<k+n:=h1 ▸ h2
        rw [if_pos (by rw [hI.rect _ hr];exact h3)]) hq (KoB (P:=λz=>nd z<LIM) (λr hr z hz=>by have h5:=Kv (hHe r hr z hz);show nd z<LIM;have h3:2*(2*bC n 30 (k+n)+2)+2<LIM:=hbc;omega) (by
          have h3:2*(2*bC n 30 (k+n)+2)+2<LIM:=hbc;show nd 0<LIM;have h4:nd 0<=1:=Kv (z:=0) (E:=0) (by decide)
          omega)) h0 (by rw [hfl];omega) (by omega) (HL.out.ext hE1)
      have Hbh:=hid hbh;have HKer:=hid hKer;clear hH hlg hfl hI hHe hHM hKer hq hbc hbh hG1 hF hOp hAl Hlf;go_wp2_with fail;refine Hbh.out.mono ?_;rintro e W2 ⟨v2,rfl,hv2,hE2⟩;have HV2:=hid hv2;have hEE:=hE1.trans hE2;clear hv2 Hbh;go_wp2_with fail;go_ret;exact ⟨_,_,rfl,HV2.out,HKer.out,hEE⟩
theorem KiN {w : World} {ga : Option Addr} {gb go cap : Nat} {l : List Int} (hS : Sl w ga gb go (ss l)) (hl : l.length <= 1000000) (hb : ∀z ∈ l, nd z <= LIM) (hL : Laid w) :
    Calls Tryz.prog 101 #[.slice ga l.length cap] w (Kc2 w l):=by
  obtain ⟨i0,hi,hz0,hz1,hz2⟩:=info_parts Tryz.infoInt;have HS:=hid hS;have HB:=hid hb;have HL:=hid hL;clear hS hb hL
  go_enter Tryz.func101,Tryz.ntmps101
  go_wp2_with (at_make;refine wpList_make_own _ rfl _ _ 38 rfl w.heap.size 3 i0 (.int .i64 0) 1 Tryz.underlying38 hi hz0 hz1 .i64 .i64 _ l.length rfl rfl (by omega) (by rw [hz2];omega) (by unfold maxLen;omega) (Nat.le_refl _) ?_;intro w1 hown1 hgrow1)
  have he1:=KR hgrow1;obtain ⟨g,hg⟩ : ∃g,g=w.heap.size:=⟨_,rfl⟩
  have Hg:=hid hg;have Hown:=hid hown1;rw [<-hg] at Hown ⊢;clear hg hown1 hgrow1
  go_loopw [4,14] (λout idx wr => ∃i:Nat,i<=l.length/\idx = .int .i64 i/\out=slv g i l.length/\Hid (wr.ownsRow g 3 1 (slv g i l.length) i (is (l.take i)))/\Hid (∀j (h:j<l.length),j<i->grt l[j]=false)/\Ext w wr) (λ_ idx _=>l.length-(intOf idx).toNat)
  case atStart=>exact ⟨0,by omega,by go_num,rfl,Hown,hid (λj _ h=>by omega),he1⟩
  case round =>
    obtain ⟨i,hi',rfl,rfl,HO,Hz,hE⟩:=hrel;generalize wr=X at *
    by_cases hlt:i<l.length
    · have hii:(i:Int)<(l.length:Int):=by omega
      obtain ⟨z,hz⟩ : ∃z,z=l[i]:=⟨_,rfl⟩
      have hc:=hE.cell (HS.out.cell i (I z) (by rw [hz];simp [ss,hlt]));obtain rfl:=HS.out.addr (by simp;omega);have hsm:=hid (Kad (z:=z) (w:=X) (HB.out z (by rw [hz];exact List.getElem_mem hlt)) (HL.out.ext hE));have Hzz:=hid hz
      cases hgz:grt z
      · have hzb : -1000000000 <= z /\ z <= 1000000000 := by
          unfold grt at hgz;have:=of_decide_eq_false hgz;omega
        have hin:KcD z=true:=decide_eq_true (by omega);rw [hin,if_pos rfl] at hsm;obtain ⟨hy1,hy2⟩:=hzb;have Hgz:=hid hgz;have hgX:=Nat.lt_of_lt_of_le (show g<X.heap.size from (World.ownsRow.lt HO.out g rfl).2) (Nat.le_refl _);clear hin hgz hz
        go_wp2_with (first
          | (go_at_call 74;refine hsm.out.mono ?_;rintro e W ⟨rfl,hW⟩;have hWg:g<W.heap.size:=Nat.lt_of_lt_of_le hgX hW.size)
          | (at_builtin;refine wpList_append_fits _ rfl _ _ 38 rfl g 3 i0 1 Tryz.underlying38 hi hz1 g i l.length _ rfl (World.ownsRow.alloc (KU HO.out hW) _) ⟨W.heap.size,0,none⟩ 1 1 [.int .i64 z] rfl rfl (cell_one_new _ _ _) (YC _ _) (by omega) ?_;intro w2 hown2 hgrow2))
        have hE2:Ext w w2:=Ext.mk' (Below.grown ((hE.trans hW).alloc _) hgrow2 (by have:=hE.size;have:=hW.size;simp;omega) (by intro q hq;injection hq with hq;have:=Hg.out;omega));rw [Hzz.out,<-Kgd hlt] at hown2;clear hgrow2 hW;go_roundw
        case rel=>exact ⟨i+1,by omega,by go_num,rfl,hid hown2,hid (λj h hj=>by
          by_cases e:j=i
          · subst e;rw [<-Hzz.out];exact Hgz.out
          · exact Hz.out j h (by omega)),hE2⟩
        case measure=>simp [intOf]<;>omega
      · have Hno:=hid (KfG hlt (by rw [<-hz];exact hgz))
        have hzb:1000000000<z\/z < -1000000000:=by
          unfold grt at hgz;exact of_decide_eq_true hgz
        clear hgz hz
        have hfin : ∀W,Ext w W->Kc2 w l (.returned (.tuple #[.slice none 0 0,.int .i64 4])) W:=λW hW=>by
          unfold Kc2;rw [if_neg (by rw [Hno.out];decide)];exact ⟨rfl,hW⟩
        have Hfin:=hid hfin;clear hfin
        cases hin:KcD z
        · rw [hin,if_neg (by decide)] at hsm
          clear hin hzb
          go_wp2_with (first
            | (go_at_call 74;refine hsm.out.mono ?_;rintro e W ⟨rfl,hW⟩))
          go_ret2;exact Hfin.out _ (hE.trans hW)
        · rw [hin,if_pos rfl] at hsm
          clear hin
          rcases hzb with hzb | hzb
          · go_wp2_with (first
              | (go_at_call 74;refine hsm.out.mono ?_;rintro e W ⟨rfl,hW⟩))
            go_ret2;exact Hfin.out _ (hE.trans hW)
          · have hzc:z<=1000000000:=by omega
            go_wp2_with (first
              | (go_at_call 74;refine hsm.out.mono ?_;rintro e W ⟨rfl,hW⟩))
            go_ret2;exact Hfin.out _ (hE.trans hW)
    · have hie:i=l.length:=by omega
      subst hie;go_wp2_with fail;go_ret2;have hs:QK l=true:=Kce (λj hj=>Hz.out j hj hj);refine ⟨?_,hE⟩;rw [if_pos hs];refine ⟨_,rfl,g,l.length,rfl,?_⟩;have:=HO.out;rw [List.take_length] at this;have h2:Kd 3 g X g l.length (is l):=by unfold Kd;rw [Kq];exact this
      rw [<-Hg.out];exact h2
theorem Zn {B B':Nat} {w w':World} {T':TypeId} {size' n':Nat} {u v:Value} {F:Mx} {ys:List Value} (h:Qk B w u F) (h':w.ownsRow B' T' size' v n' ys) (h1:38≠T') (h2:3≠T') (hg:w.grownBy w' v.ownBlock):Qk B w' u F:=by
 obtain ⟨vs,k1,k2,k3⟩:=h;exact ⟨vs,k1,Ks k2 h' h1 hg,λt ht ht'=>Ks (k3 t ht ht') h' h2 hg⟩
theorem KgL {B B':Nat} {w w':World} {T:TypeId} {g c:Nat} {xs:List Value} {v:Value} {F:Mx} (h:Kd T B w g c xs) (hM:Qk B' w v F) (h1:T≠38) (hg:w.grownBy w' v.ownBlock):Kd T B w' g c xs:=by
 obtain ⟨vs,k1,k2,k3⟩:=hM;exact Ks h k2 h1 hg
theorem KpE.rowV {B:Nat} {w:World} {v:Value} {r:List Int} (h:KpE B w v r):KH B w v r:=by
 obtain ⟨g,cap,rfl,ho⟩:=h;unfold Kd at ho;unfold KH;simpa using ho
theorem Kb0 (w:World) (T:TypeId) (a b:Value):Kd T w.heap.size (w.alloc (.cells #[a,b] T)) w.heap.size 2 [a,b] :=
 Kd.of (Nat.le_refl _) Array.getElem?_push_size (by simp) (by unfold maxLen;omega) rfl rfl
theorem KdP (w:World) (o:Obj) (T:TypeId) (a b:Value):Kd T w.heap.size ((w.alloc o).alloc (.cells #[a,b] T)) (w.heap.size+1) 2 [a,b] :=
 Kd.of (by omega) (by
  have h:((w.alloc o).heap.push (.cells #[a,b] T))[(w.alloc o).heap.size]? = some (.cells #[a,b] T):=Array.getElem?_push_size;rw [show (w.alloc o).heap.size=w.heap.size+1 by simp] at h
  exact h) (by simp) (by unfold maxLen;omega) rfl rfl
theorem Kgf {T:TypeId} {g:Nat} {w W:World} {a b:Value} (hE:Ext w W) (hg:w.heap.size<=g) (h:Kd T w.heap.size W g 2 [a,b]) (c d:Value) :
  W.cell? ⟨g,0,none⟩=some a/\W.cell? ⟨g,1,none⟩=some b/\W.frozen? ⟨g,0,none⟩=false/\W.frozen? ⟨g,1,none⟩=false /\
   ((W.setCell ⟨g,0,none⟩ c).setCell ⟨g,1,none⟩ d).cell? ⟨g,0,none⟩=some c/\((W.setCell ⟨g,0,none⟩ c).setCell ⟨g,1,none⟩ d).cell? ⟨g,1,none⟩=some d /\
   Hid (Ext w ((W.setCell ⟨g,0,none⟩ c).setCell ⟨g,1,none⟩ d))/\W.grownBy ((W.setCell ⟨g,0,none⟩ c).setCell ⟨g,1,none⟩ d) (some g):=by
 obtain ⟨h1,g1⟩:=h.set 0 c;obtain ⟨h2,g2⟩:=h1.set 1 d;exact ⟨h.cell (j:=0) (by simp),h.cell (j:=1) (by simp),h.frozen 0,h.frozen 1,h2.cell (j:=0) (by simp),h2.cell (j:=1) (by simp),hid (Kb hE (Kg g1 g2) hg),Kg g1 g2⟩
abbrev KdQ (n:Nat) (v:Value):Value := .agg #[.int .i64 n,v]
def Kjr (w:World) (K:Mx) (n:Nat) (e:Ending) (w':World):Prop := ∃v',e = .returned (.tuple #[KdQ n v',.int .i64 0])/\Qk w.heap.size w' v' K/\Ext w w'
theorem KdX {w:World} {v:Value} {K:Mx} {n:Nat} (hK:KaF w v K) (hR:Ku n K) (hn:n<=1000000) (hl:K.length<=1000000) (hs : ∀r∈K,QK r=true) (hb : ∀r∈K,∀z∈r,nd z<=LIM) (hL:Laid w) :
  Calls Tryz.prog 58 #[v,.int .i64 n] w (Kjr w K n):=by
 obtain ⟨sa,gb,go,cap,vs,rfl,hcap,hvl,hS,hr⟩:=hK;have HS:=hid hS;have HV:=hid hvl;have HR:=hid hr;have HRe:=hid hR;have Hs:=hid hs;have Hb:=hid hb;have HL:=hid hL;have hX:Ext w ((w.alloc (.cells #[.int .i64 0,.slice none 0 0] 81)).alloc (.cells #[.int .i64 n,.slice none 0 0] 81)):=((Ext.refl w).alloc _).alloc _;have H4:=hid ((Kb0 w 81 (.int .i64 0) (.slice none 0 0)).ext ((Ext.refl _).alloc (.cells #[.int .i64 n,.slice none 0 0] 81)));have H6:=hid (KdP w (.cells #[.int .i64 0,.slice none 0 0] 81) 81 (.int .i64 n) (.slice none 0 0));obtain ⟨b4,hb4⟩ : ∃b4,b4=w.heap.size:=⟨_,rfl⟩
 obtain ⟨b6,hb6⟩ : ∃b6,b6=w.heap.size+1:=⟨_,rfl⟩
 rw [<-hb6] at H6;have h4B:w.heap.size<=b4:=by omega
 have h6B:w.heap.size<=b6:=by omega
 have hne46:b4≠b6:=by omega
 clear hS hvl hr hR hs hb hL
 go_enter Tryz.func58,Tryz.ntmps58
 go_wp2_with fail;generalize hW1:World.alloc (World.alloc w _) _=W1 at *;rw [<-hb6,<-hb4];rw [show Kd 81 w.heap.size W1 w.heap.size 2 [.int .i64 0,.slice none 0 0]=Kd 81 w.heap.size W1 b4 2 [.int .i64 0,.slice none 0 0] by rw [hb4]] at H4;have Hb4:=hid hb4;clear hW1 hb6 hb4
 go_loopw [15] (λidx wr => ∃(i:Nat) (vv:Value),i<=K.length/\idx = .int .i64 i/\Hid (Kd 81 w.heap.size wr b6 2 [.int .i64 n,vv])/\Hid (Kd 81 w.heap.size wr b4 2 [.int .i64 0,.slice none 0 0])/\Hid (Qk w.heap.size wr vv (K.take i))/\Ext w wr) (λidx _=>K.length-(intOf idx).toNat)
 case atStart=>exact ⟨0,.slice none 0 0,by omega,by go_num,H6,H4,hid (Qk.nil _ _),hX⟩
 case round =>
  clear H6 H4 hX;obtain ⟨i,vv,hi,rfl,H6,H4,HM,hE⟩:=hrel;generalize wr=X at *
  by_cases hlt:i<K.length
  ·have hii:(i:Int)<(K.length:Int):=by omega
   obtain rfl:=HS.out.addr (by rw [HV.out];omega);obtain ⟨sr,br,or,cr,hrow,hrc,hSr⟩:=KaF.row HS.out HV.out HR.out hlt;have hrl:K[i].length=n:=HRe.out _ (List.getElem_mem hlt);have hsm:=Hs.out _ (List.getElem_mem hlt);have hbd:=Hb.out _ (List.getElem_mem hlt);have Hsn:=hid (Zh hlt);have Hil:=hid (show (K.take i).length=i by rw [List.length_take];omega);obtain ⟨r,hr⟩ : ∃r,r=K[i]:=⟨_,rfl⟩
   rw [<-hr] at hrow hrc hSr hrl hsm hbd Hsn;have hsh:=KiN (w:=X) (cap:=cr) (hSr.ext hE) (by rw [hrl];exact hn) hbd (HL.out.ext hE);unfold Kc2 at hsh;simp only [hsm,if_true] at hsh;rw [hrl] at hsh hrow;have Hsh:=hid hsh;have hrow':=hE.cell hrow;have hXs:=hE.size;have Hrl:=hid hrl;clear hrow hrc hSr hsm hbd hr hsh hrl;go_wp2_with fail;refine Hsh.out.mono ?_;rintro e W ⟨⟨v1,rfl,hv1⟩,hE2⟩;have Hv1:=hid hv1.rowV;obtain ⟨g1,c1,hv1e,_⟩:=hv1;have H6W:=hid (H6.out.ext hE2);have H4W:=hid (H4.out.ext hE2);have HMW:=hid (HM.out.ext hE2);have hEW:=hE.trans hE2;have q1:W.cell? ⟨b6,1,none⟩=some vv:=H6W.out.cell (j:=1) (by simp);have q0:W.cell? ⟨b6,0,none⟩=some (.int .i64 n):=H6W.out.cell (j:=0) (by simp);have hb6W:=H6W.out.lt;have hEs:=hEW.size;subst hv1e;clear H6 H4 HM Hsh;go_wp2_with (at_builtin;refine KfX rfl _ _ rfl (B:=w.heap.size) rfl (HMW.out.ext ((Ext.refl _).alloc _)) rfl (b:=W.heap.size) (rv:=slv g1 r.length c1) (r:=r) (by go_simp) ((Hv1.out.mono hXs).ext ((Ext.refl _).alloc _)) (by rw [Hil.out];omega) (by simp;omega) ?_;intro gg cap2 w8 hO8 hB8 hG8;have h68:=hid (KgL (H6W.out.ext ((Ext.refl _).alloc _)) (HMW.out.ext ((Ext.refl _).alloc _)) (by decide) hG8);have h48:=hid (KgL (H4W.out.ext ((Ext.refl _).alloc _)) (HMW.out.ext ((Ext.refl _).alloc _)) (by decide) hG8);have p1:w8.cell? ⟨b6,1,none⟩=some vv:=h68.out.cell (j:=1) (by simp);have p2:=h68.out.frozen 1;rw [Hil.out,<-Hsn.out] at hO8;rw [Hil.out])
   have hE8:Ext w w8:=Below.trans (hEW.alloc _) hB8;obtain ⟨h69,hg9⟩:=h68.out.set 1 (slv gg (i+1) cap2);have hO9:=Zn hO8 h68.out (by decide) (by decide) hg9;have h49:=h48.out.other hg9 hne46;have hE9:=Kb hE8 hg9 h6B;have H69:=hid (show Kd 81 w.heap.size _ b6 2 [.int .i64 n,slv gg (i+1) cap2] from h69);have H49:=hid h49;have HO9:=hid hO9;clear h69 h49 hO9 hg9 hO8 h68 h48 hG8 hB8 p1 p2;go_wp2_with fail;go_roundw
   case rel=>exact ⟨i+1,_,by omega,by go_num,H69,H49,HO9,hE9⟩
   case measure=>simp [intOf]<;>omega
  ·have hie:i=K.length:=by omega
   subst hie;have HF:=hid (show Qk w.heap.size X vv K by have:=HM.out;rw [List.take_length] at this;exact this)
   obtain ⟨xa,xl,xk,rfl⟩ : ∃a l k,vv = .slice a l k:=by
    obtain ⟨vs0,_,h2,_⟩:=HF.out
    rcases h2.2 with ⟨rfl,_⟩ | ⟨g,cap,cur,rfl,_⟩
    ·exact ⟨_,_,_,rfl⟩
    ·exact ⟨_,_,_,rfl⟩
   clear HM;have q0:X.cell? ⟨b6,0,none⟩=some (.int .i64 n):=H6.out.cell (j:=0) (by simp);have q1:X.cell? ⟨b6,1,none⟩=some (.slice xa xl xk):=H6.out.cell (j:=1) (by simp);obtain ⟨p0,p1,f0,f1,r0,r1,hF,hG⟩:=Kgf hE h4B H4.out (.int .i64 n) (.slice xa xl xk);have HMf:=hid (Zn HF.out H4.out (by decide) (by decide) hG);have Hres:=hid (show Kjr w K n (.returned (.tuple #[KdQ n (.slice xa xl xk),.int .i64 0])) _ from ⟨_,rfl,HMf.out,hF.out⟩);clear hG HMf;go_wp2_with fail;refine bodyPost_ret (v := .tuple #[KdQ n (.slice xa xl xk),.int .i64 0]) (by simp [results,Tryz.results58,go_sem,r0,r1]) rfl Hres.out
theorem KmK (z:Int) (w:World):Calls Tryz.prog 134 #[.int .i64 z] w λe w'=>e = .returned (.bool (!grt z))/\w'=w:=by
 by_cases h1:z < -1000000000
 ·have hg:grt z=true:=decide_eq_true (.inr h1);rw [hg];clear hg
  go_enter Tryz.func134,Tryz.ntmps134
  go_wp2
  go_ret;exact ⟨rfl,rfl⟩
 ·have h2 : -1000000000<=z:=by omega
  by_cases h3:z<=1000000000
  ·have hg:grt z=false:=decide_eq_false (by omega);rw [hg];clear hg
   go_enter Tryz.func134,Tryz.ntmps134
   go_wp2
   go_ret;exact ⟨rfl,rfl⟩
  ·have h4:1000000000<z:=by omega
   have hg:grt z=true:=decide_eq_true (.inl h4);have hd:decide (z<=1000000000)=false:=decide_eq_false h3;rw [hg];clear hg h3
   go_enter Tryz.func134,Tryz.ntmps134
   go_wp2
   go_ret;exact ⟨rfl,rfl⟩
theorem KeX (z:Int) (w:World):Calls Tryz.prog 133 #[.int .i64 z] w λe w'=>e = .returned (.bool (grt z))/\Ext w w':=by
 have hf:=hid (KmK z);obtain ⟨b,hb⟩ : ∃b,b=grt z:=⟨_,rfl⟩
 rw [<-hb] at hf ⊢;clear hb
 go_enter Tryz.func133,Tryz.ntmps133
 go_wp2_with fail;refine (hf.out _).mono ?_;rintro e W ⟨rfl,hw⟩;have hE:Ext w W:=by rw [hw];exact Ext.refl _
 clear hw;go_wp2_with fail;go_ret;exact ⟨by simp,hE⟩
def QW (x:List Int):Int:=if 64<x.length then 4 else if x.any grt then 4 else 0
theorem Kkz {x:List Int} (h:QW x=0):x.length<=64 /\ ∀z∈x,-1000000000<=z/\z<=1000000000:=by
 unfold QW at h;split at h
 ·cases h
 ·split at h
  ·cases h
  ·rename_i h1 h2
   refine ⟨by omega,λz hz => ?_⟩
   have:grt z=false:=by
    cases hg:grt z
    ·rfl
    ·exact absurd (List.any_eq_true.2 ⟨z,hz,hg⟩) h2
   unfold grt at this;have:=of_decide_eq_false this;omega
theorem Kbx {w:World} {v:Value} {x:List Int} (hR:KT w v x) :
  Calls Tryz.prog 105 #[v] w λe w'=>e = .returned (.int .i64 (QW x))/\Ext w w':=by
 obtain ⟨sa,gb,go,cap,rfl,hc,hS⟩:=hR
 by_cases h:64<x.length
 ·have hi:(64:Int)<(x.length:Int):=by omega
  have he:QW x=4:=by unfold QW;rw [if_pos h]
  rw [he];clear he hS
  go_enter Tryz.func105,Tryz.ntmps105
  go_wp2_with fail;go_ret;exact ⟨rfl,Ext.refl _⟩
 ·have hi:(x.length:Int)<=64:=by omega
  have hcn:=Kbd (cap:=cap) (p:=λi=>grt (x.getD i 0)) hS (by simp;omega) (λk hk W hW=>by
   have hk':k<x.length:=by simpa using hk
   have e:(is x)[k] = .int .i64 (x.getD k 0):=by rw [Ka hk'];simp [is]
   rw [e];exact KeX _ W)
  rw [Kq,Kjv] at hcn;have he:QW x=if x.any grt then 4 else 0:=by unfold QW;rw [if_neg h]
  rw [he];have Hcn:=hid hcn;clear he hcn hS h
  cases hg:x.any grt
  ·rw [hg] at Hcn;clear hg
   go_enter Tryz.func105,Tryz.ntmps105
   go_wp2_with fail;refine Hcn.out.mono ?_;rintro e W ⟨rfl,hW⟩;go_wp2_with fail;go_ret;exact ⟨rfl,hW⟩
  ·rw [hg] at Hcn;clear hg
   go_enter Tryz.func105,Tryz.ntmps105
   go_wp2_with fail;refine Hcn.out.mono ?_;rintro e W ⟨rfl,hW⟩;go_wp2_with fail;go_ret;exact ⟨rfl,hW⟩
theorem Kk4 {w:World} {sa:Option Addr} {gb go:Nat} {vs:List Value} {M:Mx} (hS:Sl w sa gb go vs) (hl:vs.length=M.length) (hr : ∀i (h:i<M.length) (h':i<vs.length),KT w vs[i] M[i]) (h0:0<M.length) :
  ∃s0 c0,sa=some ⟨gb,go,none⟩/\w.cell? ⟨gb,go,none⟩=some (.slice s0 (KX M) c0):=by
 obtain ⟨s0,b0,o0,c0,hrow0,_,_⟩:=KJ.row hS hl hr h0;have hn:M[0].length=KX M:=by unfold KX;rw [Ka h0]
 rw [hn,Nat.add_zero] at hrow0;exact ⟨s0,c0,hS.addr (by omega),hrow0⟩
theorem KgB {w:World} {v:Value} {F:Mx} {n:Nat} (hM:KJ w v F) (hF : ∀r∈F,QW r=0/\r.length=n) (hl:F.length<=1000) :
  Calls Tryz.prog 96 #[v,.int .i64 n] w λe w'=>e = .returned (.int .i64 0)/\Ext w w':=by
 obtain ⟨sa,gb,go,cap,vs,rfl,hcap,hvl,hS,hr⟩:=hM;have HS:=hid hS;have HV:=hid hvl;have HR:=hid hr;have HF:=hid hF;clear hS hvl hr hF
 go_enter Tryz.func96,Tryz.ntmps96
 go_wp2_with fail
 go_loopw [10] (λidx wr => ∃i:Nat,i<=F.length/\idx = .int .i64 i/\Ext w wr) (λidx _=>F.length-(intOf idx).toNat)
 case atStart=>exact ⟨0,by omega,by go_num,Ext.refl _⟩
 case round =>
  obtain ⟨i,hi,rfl,hE⟩:=hrel;generalize wr=X at *
  by_cases hlt:i<F.length
  ·have hii:(i:Int)<(F.length:Int):=by omega
   obtain rfl:=HS.out.addr (by rw [HV.out];omega);obtain ⟨sr,br,or,cr,hrow,hrc,hSr⟩:=KJ.row HS.out HV.out HR.out hlt;obtain ⟨h1,h2⟩:=HF.out _ (List.getElem_mem hlt);have hch:=hid (Kbx (w:=X) (v := .slice sr F[i].length cr) (x:=F[i]) ⟨sr,br,or,cr,rfl,hrc,hSr.ext hE⟩);rw [h1] at hch;rw [h2] at hch hrow;have hrow':=hE.cell hrow;clear hrow hrc hSr h1 h2;go_wp2_with fail;refine hch.out.mono ?_;rintro e W ⟨rfl,hW⟩;go_wp2_with fail;go_roundw
   case rel=>exact ⟨i+1,by omega,by go_num,hE.trans hW⟩
   case measure=>simp [intOf]<;>omega
  ·have hii : ¬(i:Int)<(F.length:Int):=by omega
   go_wp2_with fail;go_ret;exact ⟨rfl,hE⟩
theorem Khg {w:World} {sa:Option Addr} {gb go cap:Nat} {vs:List Value} {p:Nat->Bool} {k:Int} (hS:Sl w sa gb go vs) (hl:vs.length<=1000000)
  (hF : ∀i (h:i<vs.length) W,Ext w W->Calls Tryz.prog 178 #[vs[i]] W λe w'=>e = .returned (.bool (p i))/\Ext W w') (hk:IxR p vs.length k) :
  Calls Tryz.prog 54 #[.slice sa vs.length cap,.func (.func 178) #[] #[]] w λe w'=>e = .returned (.int .i64 k)/\Ext w w':=by
 have HF:=hid hF;have HK:=hid hk;have HS:=hid hS;clear hF hk hS
 go_enter Tryz.func54,Tryz.ntmps54
 go_wp2_with fail
 go_loopw [8] (λidx wr => ∃i:Nat,i<=vs.length/\idx = .int .i64 i/\Hid (∀j,j<i->p j=false)/\Ext w wr) (λidx _=>vs.length-(intOf idx).toNat)
 case atStart=>exact ⟨0,by omega,by go_num,hid (λj h=>by omega),Ext.refl _⟩
 case round =>
  obtain ⟨i,hi,rfl,Hp,hE⟩:=hrel;generalize wr=X at *
  by_cases hlt:i<vs.length
  ·have hii:(i:Int)<(vs.length:Int):=by omega
   obtain ⟨u,hu⟩ : ∃u,u=vs[i]:=⟨_,rfl⟩
   have hc:=hE.cell (HS.out.cell i u (by rw [hu];exact List.getElem?_eq_getElem hlt));obtain rfl:=HS.out.addr (by omega);have hf:=HF.out i hlt X hE;rw [<-hu] at hf;have Hf:=hid hf;clear hf hu
   cases hpi:p i
   ·rw [hpi] at Hf;have Hpi:=hid hpi;clear hpi;go_wp2_with fail;refine Hf.out.mono ?_;rintro e W ⟨rfl,hE2⟩;go_wp2_with fail;go_roundw
    case rel=>exact ⟨i+1,by omega,by go_num,hid (λj hj=>by
     by_cases e:j=i
     ·subst e;exact Hpi.out
     ·exact Hp.out j (by omega)),hE.trans hE2⟩
    case measure=>simp [intOf]<;>omega
   ·rw [hpi] at Hf;have Hki:=hid (JH HK.out hlt hpi Hp.out);clear hpi;go_wp2_with fail;refine Hf.out.mono ?_;rintro e W ⟨rfl,hE2⟩;go_wp2_with fail;go_ret;exact ⟨by rw [Hki.out];rfl,hE.trans hE2⟩
  ·have Hki:=hid (JI HK.out (λj hj=>Hp.out j (by omega)));go_wp2_with fail;go_ret;exact ⟨by rw [Hki.out];rfl,hE⟩
theorem Kgc {w:World} {sa:Option Addr} {gb go cap:Nat} {c1 c2:Value} {vs:List Value} {p:Nat->Bool} {k:Int} (hS:Sl w sa gb go vs) (hl:vs.length<=1000000)
  (hF : ∀i (h:i<vs.length) W,Ext w W->Calls Tryz.prog 160 #[vs[i],c1,c2] W λe w'=>e = .returned (.bool (p i))/\Ext W w') (hk:IxR p vs.length k) :
  Calls Tryz.prog 179 #[.slice sa vs.length cap,.func (.func 160) #[] #[c1,c2]] w λe w'=>e = .returned (.int .i64 k)/\Ext w w':=by
 have HF:=hid hF;have HK:=hid hk;have HS:=hid hS;clear hF hk hS
 go_enter Tryz.func179,Tryz.ntmps179
 go_wp2_with fail
 go_loopw [8] (λidx wr => ∃i:Nat,i<=vs.length/\idx = .int .i64 i/\Hid (∀j,j<i->p j=false)/\Ext w wr) (λidx _=>vs.length-(intOf idx).toNat)
 case atStart=>exact ⟨0,by omega,by go_num,hid (λj h=>by omega),Ext.refl _⟩
 case round =>
  obtain ⟨i,hi,rfl,Hp,hE⟩:=hrel;generalize wr=X at *
  by_cases hlt:i<vs.length
  ·have hii:(i:Int)<(vs.length:Int):=by omega
   obtain ⟨u,hu⟩ : ∃u,u=vs[i]:=⟨_,rfl⟩
   have hc:=hE.cell (HS.out.cell i u (by rw [hu];exact List.getElem?_eq_getElem hlt));obtain rfl:=HS.out.addr (by omega);have hf:=HF.out i hlt X hE;rw [<-hu] at hf;have Hf:=hid hf;clear hf hu
   cases hpi:p i
   ·rw [hpi] at Hf;have Hpi:=hid hpi;clear hpi;go_wp2_with fail;refine Hf.out.mono ?_;rintro e W ⟨rfl,hE2⟩;go_wp2_with fail;go_roundw
    case rel=>exact ⟨i+1,by omega,by go_num,hid (λj hj=>by
     by_cases e:j=i
     ·subst e;exact Hpi.out
     ·exact Hp.out j (by omega)),hE.trans hE2⟩
    case measure=>simp [intOf]<;>omega
   ·rw [hpi] at Hf;have Hki:=hid (JH HK.out hlt hpi Hp.out);clear hpi;go_wp2_with fail;refine Hf.out.mono ?_;rintro e W ⟨rfl,hE2⟩;go_wp2_with fail;go_ret;exact ⟨by rw [Hki.out];rfl,hE.trans hE2⟩
  ·have Hki:=hid (JI HK.out (λj hj=>Hp.out j (by omega)));go_wp2_with fail;go_ret;exact ⟨by rw [Hki.out];rfl,hE⟩
theorem KcX {w:World} {sa:Option Addr} {gb go cap:Nat} {c1 c2:Value} {vs:List Value} {p:Nat->Bool} (hS:Sl w sa gb go vs) (hl:vs.length<=1000000)
  (hF : ∀i (h:i<vs.length) W,Ext w W->Calls Tryz.prog 160 #[vs[i],c1,c2] W λe w'=>e = .returned (.bool (p i))/\Ext W w') :
  Calls Tryz.prog 159 #[.slice sa vs.length cap,.func (.func 160) #[] #[c1,c2]] w λe w'=>e = .returned (.bool (JJ p vs.length))/\Ext w w':=by
 obtain ⟨k,hk⟩:=KbP p vs.length;have Hge:=hid (Kdm hk);have HI:=hid (Kgc (cap:=cap) hS hl hF hk);clear hS hF hk
 go_enter Tryz.func159,Tryz.ntmps159
 go_wp2_with fail;refine HI.out.mono ?_;rintro e W ⟨rfl,hE⟩;go_wp2_with fail;go_ret;exact ⟨by rw [<-Hge.out];rfl,hE⟩
theorem KiV (z:Int) (w:World):Calls Tryz.prog 178 #[.int .i64 z] w λe w'=>e = .returned (.bool (decide (z≠0)))/\Ext w w':=by
 by_cases h:z=0
 ·subst h
  go_enter Tryz.func178,Tryz.ntmps178
  go_wp2
  go_ret;exact ⟨rfl,Ext.refl _⟩
 ·have hb:decide (z≠0)=true:=decide_eq_true h;rw [hb];have h1:(z==0)=false:=beq_eq_false_iff_ne.2 h;have h2:(z != 0)=true:=by simp [bne,h1]
  clear hb
  go_enter Tryz.func178,Tryz.ntmps178
  go_wp2
  go_ret;exact ⟨rfl,Ext.refl _⟩
theorem Klb {w:World} {v:Value} {r:List Int} (hR:KT w v r) (hl:r.length<=1000000) :
  Calls Tryz.prog 158 #[v] w λe w'=>e = .returned (.int .i64 (pvI r))/\Ext w w':=by
 obtain ⟨sa,gb,go,cap,rfl,hc,hS⟩:=hR
 have hI:=Khg (cap:=cap) (p:=λi=>decide (r.getD i 0≠0)) (k:=pvI r) hS (by simpa using hl) (λi h W hW=>by
  have hi:i<r.length:=by simpa using h
  have e:(is r)[i] = .int .i64 (r.getD i 0):=by rw [Ka hi];simp [is]
  rw [e]
  exact KiV _ W) (by rw [Kq];exact KiW r)
 rw [Kq] at hI;have HI:=hid hI;clear hI hS
 go_enter Tryz.func158,Tryz.ntmps158
 go_wp2_with fail;refine HI.out.mono ?_;rintro e W ⟨rfl,hE⟩;go_wp2_with fail;go_ret;exact ⟨rfl,hE⟩
theorem Khi {w:World} {sa sr:Option Addr} {gb go cap gr or cr bp br p n:Nat} {x r:List Int} (hS:Sl w sa gb go (is x)) (hR:Sl w sr gr or (is r)) (hx:x.length=n) (hr:r.length=n) (hn:n<=1000000) (hp:p<n)
  (c1:w.cell? ⟨bp,0,none⟩=some (.int .i64 p)) (c2:w.cell? ⟨br,0,none⟩=some (.slice sr n cr)) :
  Calls Tryz.prog 160 #[.slice sa n cap,.pointer (some ⟨bp,0,none⟩),.pointer (some ⟨br,0,none⟩)] w λe w'=>e = .returned (.bool (decide (x.getD p 0<0)||decide (r.getD p 0<=x.getD p 0)))/\Ext w w':=by
 have hpi:(p:Int)<(n:Int):=by omega
 have hp0:(0:Int)<=(p:Int):=by omega
 obtain rfl:=hS.addr (by simp;omega);obtain rfl:=hR.addr (by simp;omega);have cx:=hS.cell p _ (Qg (by omega));have cr':=hR.cell p _ (Qg (by omega));rw [Ka (by omega),Ka (by omega)];generalize x[p]=a at *;generalize r[p]=b at *;clear hS hR hx hr
 by_cases h:a<0
 ·have e1:decide (a<0)=true:=decide_eq_true h;rw [e1,Bool.true_or]
  go_enter Tryz.func160,Tryz.ntmps160
  go_wp2_with fail
  go_quiet (fail)
  go_wp2_with fail;go_ret;exact ⟨rfl,(Ext.refl _).drewN _⟩
 ·have e1:decide (a<0)=false:=decide_eq_false h;rw [e1,Bool.false_or];have h0:0<=a:=by omega
  clear h
  by_cases h2:b<=a
  ·have e2:decide (b<=a)=true:=decide_eq_true h2;rw [e2]
   go_enter Tryz.func160,Tryz.ntmps160
   go_wp2_with fail
   go_quiet (fail)
   go_wp2_with fail;go_ret;exact ⟨rfl,(Ext.refl _).drewN _⟩
  ·have e2:decide (b<=a)=false:=decide_eq_false h2;rw [e2];have h3:a<b:=by omega
   go_enter Tryz.func160,Tryz.ntmps160
   go_wp2_with fail
   go_quiet (fail)
   go_wp2_with fail;go_ret;exact ⟨rfl,(Ext.refl _).drewN _⟩
end
end Go.Proofs.YtdmaofimeknkbaaGreatDoor
