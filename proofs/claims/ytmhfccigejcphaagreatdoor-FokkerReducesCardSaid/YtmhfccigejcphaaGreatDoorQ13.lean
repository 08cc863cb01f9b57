/- Part 13 of the proof of the claim: contracts of the functions that it reaches, and plain laws; no condition. -/
import Derived.Test.YtmhfccigejcphaaGreatDoorQ12
import Derived.Test.YtmhfccigejcphaaGreatDoorQ03
set_option maxRecDepth 100000
set_option maxHeartbeats 20000000
namespace Go.Proofs.YtmhfccigejcphaaGreatDoor
section
open Go.RowKit Go.Sort
open Lib (hid)
theorem Qq (w:World) (T:TypeId) (a b:Value):Kd T w.heap.size (w.alloc (.cells #[a,b] T)) w.heap.size 2 [a,b] :=
 Kd.of (Nat.le_refl _) (by
  have h:(w.heap.push (.cells #[a,b] T))[w.heap.size]? = some (.cells #[a,b] T):=Array.getElem?_push_size
  exact h) (by simp) (by unfold maxLen;omega) rfl rfl
theorem Qk {T:TypeId} {B g:Nat} {w W:World} {a b:Value} (hE:Ext w W) (hg:w.heap.size<=g) (h:Kd T B W g 2 [a,b]) (c d:Value) :
  W.cell? ⟨g,0,none⟩=some a/\W.cell? ⟨g,1,none⟩=some b/\W.frozen? ⟨g,0,none⟩=false/\W.frozen? ⟨g,1,none⟩=false /\
   ((W.setCell ⟨g,0,none⟩ c).setCell ⟨g,1,none⟩ d).cell? ⟨g,0,none⟩=some c/\((W.setCell ⟨g,0,none⟩ c).setCell ⟨g,1,none⟩ d).cell? ⟨g,1,none⟩=some d /\
   Hid (Ext w ((W.setCell ⟨g,0,none⟩ c).setCell ⟨g,1,none⟩ d)):=by
 obtain ⟨h1,g1⟩:=h.set 0 c;obtain ⟨h2,g2⟩:=h1.set 1 d;exact ⟨h.cell (j:=0) (by simp),h.cell (j:=1) (by simp),h.frozen 0,h.frozen 1,h2.cell (j:=0) (by simp),h2.cell (j:=1) (by simp),hid (Kb hE (Kh g1 g2) hg)⟩
theorem Yk:Lib.itoa 1=[49]:=by rw [show (1:Int)=((1:Nat):Int) from rfl,Yj];decide +kernel
theorem Kag (z:Int):(Lib.itoa z==[49])=decide (z=1):=by
 by_cases h:z=1
 ·subst h;rw [Yk];simp
 ·rw [decide_eq_false h,beq_eq_false_iff_ne];exact λhc=>h (Kdz (hc.trans Yk.symm))
def YM (w:World) (v:Value) (e:Ending) (w':World):Prop:=e = .returned v/\Ext w w'
def qg (n d:Int):Nat:=Nat.gcd n.natAbs d.natAbs
def qn (n d:Int):Int:=(if d<0 then -n else n)/(qg n d:Int)
def qd (n d:Int):Int:=(d.natAbs:Int)/(qg n d:Int)
theorem Kco {z:Int} (hn:nd z<=LIM) (w:World) :
  Calls Tryz.prog 187 #[I z] w λe w'=>e = .returned (.tuple #[.int .i64 (if Km 9 z then z else 0),.bool (Km 9 z)])/\Ext w w':=by
 by_cases h:(Lib.itoa z).length<=9
 ·have e:Km 9 z=true:=decide_eq_true h;rw [e,if_pos rfl]
  have hb:z.natAbs<10^18:=by
   refine KA (k:=18) ?_;have:=QO z;unfold nd at this;split at this<;>omega
  have hs:(⟨(Lib.itoa z).toArray⟩:ByteArray).size<=9223372036854775806:=by rw [KfE];omega
  have H:=hid (Tryz.strconv_Atoi_ok ⟨(Lib.itoa z).toArray⟩ hs z (KeR (by omega) (by omega)));have ht : ¬(9:Int)<((Lib.itoa z).length:Int):=by omega
  clear hb hs h hn e
  go_enter Tryz.func187,Tryz.ntmps187
  go_wp2_with (first | (go_at_call 224;refine (H.out _).mono ?_;rintro e w1 ⟨rfl,hb1⟩))
  go_quiet (fail)
  go_wp2
  go_ret2;refine ⟨rfl,?_⟩
  rcases hb1 with rfl | ⟨t,rfl⟩
  ·exact (Ext.refl _).drewN _
  ·exact (QY _ _ _).drewN _
 ·have e:Km 9 z=false:=decide_eq_false h;rw [e];have hl:(Lib.itoa z).length<=1000000000001:=by rw [QO];unfold LIM at hn;split<;>omega
  have ht:(9:Int)<((Lib.itoa z).length:Int):=by omega
  have hr:(if false=true then z else 0)=0:=rfl;rw [hr];clear hn h hr e;unfold I;generalize Lib.itoa z=l at *
  go_enter Tryz.func187,Tryz.ntmps187
  go_wp2
  go_ret2;exact ⟨rfl,Ext.refl _⟩
theorem XY {a b:Int} (ha:nd a<=LIM) (hb:nd b<=LIM) (w:World) :
  Calls Tryz.prog 133 #[.agg #[I a,I b]] w λe w'=>e = .returned (.tuple #[.int .i64 (if Km 9 a then a else 0),.int .i64 (if Km 9 b then b else 0),.bool (Km 9 a&&Km 9 b)])/\Ext w w':=by
 have l1:=hid (Kco ha);have l2:=hid (Kco hb);obtain ⟨x,hx⟩ : ∃x,x=(if Km 9 a then a else 0):=⟨_,rfl⟩
 obtain ⟨y,hy⟩ : ∃y,y=(if Km 9 b then b else 0):=⟨_,rfl⟩
 rw [<-hx] at l1 ⊢;rw [<-hy] at l2 ⊢;clear hx hy ha hb;generalize Km 9 a=f1 at *;generalize Km 9 b=f2 at *;have hX:Ext w (w.alloc (.cells #[I a,I b] 84)):=(Ext.refl w).alloc _;have HO:=Qq w 84 (I a) (I b);have c0:(w.alloc (.cells #[I a,I b] 84)).cell? ⟨w.heap.size,0,none⟩=some (I a):=HO.cell (j:=0) (by simp);have c1:(w.alloc (.cells #[I a,I b] 84)).cell? ⟨w.heap.size,1,none⟩=some (I b):=HO.cell (j:=1) (by simp);clear HO
 cases f1
 all_goals cases f2
 all_goals
  go_enter Tryz.func133,Tryz.ntmps133
  go_wp2_with fail;refine (l1.out _).mono ?_;rintro e w1 ⟨rfl,hE1⟩;replace c0:=hE1.cell c0;replace c1:=hE1.cell c1;go_wp2_with fail;refine (l2.out _).mono ?_;rintro e w2 ⟨rfl,hE2⟩;have hE:=(hX.trans hE1).trans hE2;go_wp2_with fail
  go_ret3
  exact ⟨rfl,hE⟩
theorem Kjs {n d:Int} (hn : -9000000000000000000<=n/\n<=9000000000000000000) (hd:0<d/\d<=9000000000000000000) {w:World} (hL:Laid w) :
  Calls Tryz.prog 135 #[.int .i64 n,.int .i64 d] w λe w'=>e = .returned (.agg #[I (qn n d),I (qd n d)])/\Ext w w':=by
 have HL:=hid hL;obtain ⟨g,hg⟩ : ∃g,g=qg n d:=⟨_,rfl⟩
 have Hg:=hid hg;have hg0:0<g:=by rw [hg];exact Nat.gcd_pos_of_pos_right _ (by omega)
 have hgd:g<=d.natAbs:=by rw [hg];exact Nat.gcd_le_right _ (by omega)
 have hgn:(g:Int)∣n:=by rw [hg];exact Int.ofNat_dvd_left.2 (Nat.gcd_dvd_left _ _)
 have hgdv:(g:Int)∣d:=by rw [hg];exact Int.ofNat_dvd_left.2 (Nat.gcd_dvd_right _ _)
 have e1:Int.tdiv n g=qn n d:=by unfold qn;rw [<-hg,if_neg (by omega),Int.tdiv_eq_ediv_of_dvd hgn]
 have e2:Int.tdiv d g=qd n d:=by unfold qd;rw [<-hg,Int.tdiv_eq_ediv_of_dvd hgdv,show (d.natAbs:Int)=d by omega]
 have b1 : -9000000000000000000<=qn n d/\qn n d<=9000000000000000000:=by
  rw [<-e1];have:=Int.natAbs_tdiv_le_natAbs n g;omega
 have b2 : -9000000000000000000<=qd n d/\qd n d<=9000000000000000000:=by
  rw [<-e2];have:=Int.natAbs_tdiv_le_natAbs d g;omega
 generalize qn n d=p at *;generalize qd n d=q at *;have hi1:=hid (λw hL=>Kc6 (n:=p) (w:=w) (by omega) (by omega) hL);have hi2:=hid (λw hL=>Kc6 (n:=q) (w:=w) (by omega) (by omega) hL);have hwp:IntKind.i64.wrap p=p:=IntWalk.i64_in _ (by omega);have hwq:IntKind.i64.wrap q=q:=IntWalk.i64_in _ (by omega);have hgz:((g:Int)==0)=false:=beq_eq_false_iff_ne.2 (by omega);have hgz2 : ¬g=0:=by omega
 have Hgd:=hid hgd;have Hg0:=hid hg0;have HO:=hid (Qq w 84 (.string ⟨#[]⟩) (.string ⟨#[]⟩));have hX:Ext w (w.alloc (.cells #[.string ⟨#[]⟩,.string ⟨#[]⟩] 84)):=(Ext.refl w).alloc _;clear hg hgn hgdv hL b1 b2 hgd hg0
 go_enter Tryz.func135,Tryz.ntmps135
 go_wp2_with fail;generalize (w.alloc (.cells #[.string ⟨#[]⟩,.string ⟨#[]⟩] 84))=X at *
 go_loopg [5,6] d.natAbs (λk av bv wr => ∃(x y:Int),av = .int .i64 x/\bv = .int .i64 y/\k=y.natAbs/\(-9000000000000000000<=x/\x<=9000000000000000000)/\(-9000000000000000000<=y/\y<=9000000000000000000)/\Hid (qg x y=g)/\Ext X wr)
 case atStart=>exact ⟨n,d,rfl,rfl,rfl,hn,by omega,hid Hg.out.symm,Ext.refl _⟩
 case round =>
  obtain ⟨x,y,rfl,rfl,rfl,hx,hy,HK,hE⟩:=hrel;generalize wr=V at *
  by_cases hz:y=0
  ·subst hz;have hxg:=hid (show x.natAbs=g by have:=HK.out;unfold qg at this;simpa using this)
   by_cases hx0:x<0
   ·have hwx:IntKind.i64.wrap (-x)=(g:Int):=by rw [IntWalk.i64_in _ (by omega)];have:=hxg.out;omega
    go_wp2_with fail;have d7:Ext V V.drew:=(Ext.refl V).drew;refine Kf (S:=λW=>Ext V W) 8 (by kernel_rfl) (by simp) ?_;intro inv;refine tkS (i:=0) (v := .int .i64 n) rfl d7 inv ?_;intro inv;go_simp;refine tkS (i:=1) (v := .int .i64 g) rfl d7 inv ?_;intro inv;go_simp;refine tkS (i:=2) (v := .int .i64 p) rfl d7 inv ?_;intro inv;go_simp;refine tkS (i:=4) (v := .int .i64 d) rfl d7 inv ?_;intro inv;go_simp;refine tkS (i:=5) (v := .int .i64 g) rfl d7 inv ?_;intro inv;go_simp;refine tkS (i:=6) (v := .int .i64 q) rfl d7 inv ?_;intro inv;go_simp;refine Ki (i:=3) rfl (by kernel_rfl) (λK0 hK0 => ?_);go_simp;refine (hi1.out _ (HL.out.ext ((hX.trans hE).trans d7))).mono ?_;rintro e w1 ⟨rfl,hE1⟩;have d1:=d7.trans hE1;refine hK0 _ _ d1 ?_;clear hK0;refine Ki (i:=7) rfl (by kernel_rfl) (λK1 hK1 => ?_);go_simp;refine (hi2.out _ (HL.out.ext ((hX.trans hE).trans d1))).mono ?_;rintro e w2 ⟨rfl,hE2⟩;have d2:=d1.trans hE2;refine hK1 _ _ d2 ?_;clear hK1;refine Kg (by kernel_rfl) ?_;have hE9:=(hX.trans hE).trans d2;obtain ⟨q0,q1,f0,f1,r0,r1,hF⟩:=Qk hE9 (Nat.le_refl _) (HO.out.ext (hE.trans d2)) (I p) (I q);have Hres:=hid (show YM w (.agg #[I p,I q]) (.returned (.agg #[I p,I q])) _ from ⟨rfl,hF.out⟩);go_wp2_with fail;refine bodyPost_ret (v := .agg #[I p,I q]) (by simp [results,Tryz.results135,go_sem,r0,r1]) rfl Hres.out
   ·have hxe:x=(g:Int):=by have:=hxg.out;omega
    subst hxe;go_wp2_with fail;have d7:Ext V V.drew:=(Ext.refl V).drew;refine Kf (S:=λW=>Ext V W) 8 (by kernel_rfl) (by simp) ?_;intro inv;refine tkS (i:=0) (v := .int .i64 n) rfl d7 inv ?_;intro inv;go_simp;refine tkS (i:=1) (v := .int .i64 g) rfl d7 inv ?_;intro inv;go_simp;refine tkS (i:=2) (v := .int .i64 p) rfl d7 inv ?_;intro inv;go_simp;refine tkS (i:=4) (v := .int .i64 d) rfl d7 inv ?_;intro inv;go_simp;refine tkS (i:=5) (v := .int .i64 g) rfl d7 inv ?_;intro inv;go_simp;refine tkS (i:=6) (v := .int .i64 q) rfl d7 inv ?_;intro inv;go_simp;refine Ki (i:=3) rfl (by kernel_rfl) (λK0 hK0 => ?_);go_simp;refine (hi1.out _ (HL.out.ext ((hX.trans hE).trans d7))).mono ?_;rintro e w1 ⟨rfl,hE1⟩;have d1:=d7.trans hE1;refine hK0 _ _ d1 ?_;clear hK0;refine Ki (i:=7) rfl (by kernel_rfl) (λK1 hK1 => ?_);go_simp;refine (hi2.out _ (HL.out.ext ((hX.trans hE).trans d1))).mono ?_;rintro e w2 ⟨rfl,hE2⟩;have d2:=d1.trans hE2;refine hK1 _ _ d2 ?_;clear hK1;refine Kg (by kernel_rfl) ?_;have hE9:=(hX.trans hE).trans d2;obtain ⟨q0,q1,f0,f1,r0,r1,hF⟩:=Qk hE9 (Nat.le_refl _) (HO.out.ext (hE.trans d2)) (I p) (I q);have Hres:=hid (show YM w (.agg #[I p,I q]) (.returned (.agg #[I p,I q])) _ from ⟨rfl,hF.out⟩);go_wp2_with fail;refine bodyPost_ret (v := .agg #[I p,I q]) (by simp [results,Tryz.results135,go_sem,r0,r1]) rfl Hres.out
  ·have hzi:(y==0)=false:=beq_eq_false_iff_ne.2 hz;have hr0:=Int.natAbs_tmod x y;have Hm:=Nat.mod_lt x.natAbs (show 0<y.natAbs by omega);have HK2:=hid (show qg y (Int.tmod x y)=g by rw [<-HK.out];unfold qg;rw [hr0,Nat.gcd_comm y.natAbs,<-Nat.gcd_rec,Nat.gcd_comm]);obtain ⟨r,hr⟩ : ∃r,Int.tmod x y=r:=⟨_,rfl⟩
   rw [hr] at HK2 hr0;rw [<-hr0] at Hm;have hwr:IntKind.i64.wrap r=r:=IntWalk.i64_in _ (by omega);clear hz HK hr0;go_wp2_with fail
   go_quiet (fail)
   go_wp2_with fail
   go_roundg r.natAbs
   case measure=>exact Hm
   case rel=>exact ⟨y,r,rfl,rfl,rfl,hy,by omega,HK2,hE.drewN _⟩
theorem KoW {a b:Int} (h:a.natAbs<=b.natAbs):nd a<=nd b:=Qw h
theorem KpQ {n d:Int} (h:d≠0):0<qg n d:=Nat.gcd_pos_of_pos_right _ (by omega)
theorem KqC {n d:Int} (h:d≠0):qg n d<=d.natAbs:=Nat.gcd_le_right _ (by omega)
theorem YA {n d:Int} (hn:nd n<LIM) (hd:nd d<LIM) (h0:d≠0) {w:World} (hL:Laid w) :
  Calls Tryz.prog 130 #[I n,I d] w λe w'=>e = .returned (.agg #[I (qn n d),I (qd n d)])/\Ext w w':=by
 have HL:=hid hL;obtain ⟨n',hn'⟩ : ∃n',n'=if d<0 then -n else n:=⟨_,rfl⟩
 obtain ⟨d',hd'⟩ : ∃d',d'=(d.natAbs:Int):=⟨_,rfl⟩
 obtain ⟨g,hg⟩ : ∃g,g=qg n d:=⟨_,rfl⟩
 have Hg:=hid hg;have hg0:0<g:=by rw [hg];exact KpQ h0
 have hgl:g<=d.natAbs:=by rw [hg];exact KqC h0
 have e1:qn n d=n'/(g:Int):=by unfold qn;rw [<-hg,<-hn']
 have e2:qd n d=d'/(g:Int):=by unfold qd;rw [<-hg,<-hd']
 have hnn:nd n'<LIM:=by rw [hn'];split;(rw [KbQ];exact hn);exact hn
 have hdd:nd d'<LIM:=by rw [hd'];show Lib.nDigits _<_;rw [Int.natAbs_natCast];exact hd
 have hgn:nd (g:Int)<LIM:=Nat.lt_of_le_of_lt (KoW (by rw [Int.natAbs_natCast];exact hgl)) hd
 have hgc:Nat.gcd n'.natAbs d'.natAbs=g:=by
  rw [hg,hn',hd',Int.natAbs_natCast];unfold qg
  split
  ·rw [Int.natAbs_neg]
  ·rfl
 have hs:=hid (ZI d);have hN1:=hid (J5 (z:=n) (Nat.le_of_lt hn));have hN2:=hid (J5 (z:=d) (Nat.le_of_lt hd));have hG:=hid (λw hL=>KhR (a:=n') (b:=d') (w:=w) hnn hdd hL);rw [hgc] at hG;have hD1:=hid (λw hL=>Qg (a:=n') (b:=(g:Int)) (w:=w) hnn hgn (by omega) hL);have hD2:=hid (λw hL=>Qg (a:=d') (b:=(g:Int)) (w:=w) hdd hgn (by omega) hL);rw [Int.fdiv_eq_ediv_of_nonneg _ (by omega),<-e1] at hD1;rw [Int.fdiv_eq_ediv_of_nonneg _ (by omega),<-e2] at hD2;have h1:=Kag (g:Int);have E1:=hid (show g=1->qn n d=n'/\qd n d=d' from λh=>by rw [e1,e2,h];exact ⟨Int.ediv_one _,Int.ediv_one _⟩);clear e1 e2;generalize qn n d=x at *;generalize qd n d=y at *;generalize n'.fmod g=r1 at *;generalize d'.fmod g=r2 at *;have HO:=hid (Qq w 84 (.string ⟨#[]⟩) (.string ⟨#[]⟩));have hX:Ext w (w.alloc (.cells #[.string ⟨#[]⟩,.string ⟨#[]⟩] 84)):=(Ext.refl w).alloc _;have Hd':=hid hd';have Hn':=hid hn';clear hg hgl hL hn hd hnn hdd hgn hgc hn' hd' hg0
 by_cases hneg:d<0
 ·have hsg:d.sign = -1:=Int.sign_eq_neg_one_of_neg hneg;have en : -n=n':=by rw [Hn'.out,if_pos hneg]
  have ed : -d=d':=by rw [Hd'.out];omega
  rw [hsg] at hs;rw [en] at hN1;rw [ed] at hN2;clear hsg hneg en ed h0
  by_cases hg1:g=1
  ·rw [decide_eq_true (by omega)] at h1;obtain ⟨rfl,rfl⟩:=E1.out hg1;clear hg1 E1
   go_enter Tryz.func130,Tryz.ntmps130
   go_wp2_with fail;refine (hs.out _).mono ?_;rintro e w1 ⟨rfl,hE1⟩;replace HO:=hid (HO.out.ext hE1);replace hX:=hX.trans hE1;clear hE1;go_wp2_with fail;refine (hN1.out _).mono ?_;rintro e w1 ⟨rfl,hE1⟩;replace HO:=hid (HO.out.ext hE1);replace hX:=hX.trans hE1;clear hE1;go_wp2_with fail;refine (hN2.out _).mono ?_;rintro e w1 ⟨rfl,hE1⟩;replace HO:=hid (HO.out.ext hE1);replace hX:=hX.trans hE1;clear hE1;go_wp2_with fail;refine (hG.out _ (HL.out.ext hX)).mono ?_;rintro e w1 ⟨rfl,hE1⟩;replace HO:=hid (HO.out.ext hE1);replace hX:=hX.trans hE1;clear hE1;obtain ⟨q0,q1,f0,f1,r0,r1,hF⟩:=Qk hX (Nat.le_refl _) HO.out (I x) (I y);have Hres:=hid (show YM w (.agg #[I x,I y]) (.returned (.agg #[I x,I y])) _ from ⟨rfl,hF.out⟩);go_wp2_with fail;refine bodyPost_ret (v := .agg #[I x,I y]) (by simp [results,Tryz.results130,go_sem,r0,r1]) rfl Hres.out
  ·rw [decide_eq_false (by omega)] at h1;clear hg1 E1
   go_enter Tryz.func130,Tryz.ntmps130
   go_wp2_with fail;refine (hs.out _).mono ?_;rintro e w1 ⟨rfl,hE1⟩;replace HO:=hid (HO.out.ext hE1);replace hX:=hX.trans hE1;clear hE1;go_wp2_with fail;refine (hN1.out _).mono ?_;rintro e w1 ⟨rfl,hE1⟩;replace HO:=hid (HO.out.ext hE1);replace hX:=hX.trans hE1;clear hE1;go_wp2_with fail;refine (hN2.out _).mono ?_;rintro e w1 ⟨rfl,hE1⟩;replace HO:=hid (HO.out.ext hE1);replace hX:=hX.trans hE1;clear hE1;go_wp2_with fail;refine (hG.out _ (HL.out.ext hX)).mono ?_;rintro e w1 ⟨rfl,hE1⟩;replace HO:=hid (HO.out.ext hE1);replace hX:=hX.trans hE1;clear hE1;go_wp2_with fail;refine (hD1.out _ (HL.out.ext hX)).mono ?_;rintro e w1 ⟨rfl,hE1⟩;replace HO:=hid (HO.out.ext hE1);replace hX:=hX.trans hE1;clear hE1;go_wp2_with fail;refine (hD2.out _ (HL.out.ext hX)).mono ?_;rintro e w1 ⟨rfl,hE1⟩;replace HO:=hid (HO.out.ext hE1);replace hX:=hX.trans hE1;clear hE1;obtain ⟨q0,q1,f0,f1,r0,r1,hF⟩:=Qk hX (Nat.le_refl _) HO.out (I x) (I y);have Hres:=hid (show YM w (.agg #[I x,I y]) (.returned (.agg #[I x,I y])) _ from ⟨rfl,hF.out⟩);go_wp2_with fail;refine bodyPost_ret (v := .agg #[I x,I y]) (by simp [results,Tryz.results130,go_sem,r0,r1]) rfl Hres.out
 ·have hsg:d.sign=1:=Int.sign_eq_one_of_pos (by omega);have en:n=n':=by rw [Hn'.out,if_neg hneg]
  have ed:d=d':=by rw [Hd'.out];omega
  rw [hsg] at hs;clear Hn' Hd' h0;subst en;subst ed;clear hsg hneg hN1 hN2
  by_cases hg1:g=1
  ·rw [decide_eq_true (by omega)] at h1;obtain ⟨rfl,rfl⟩:=E1.out hg1;clear hg1 E1
   go_enter Tryz.func130,Tryz.ntmps130
   go_wp2_with fail;refine (hs.out _).mono ?_;rintro e w1 ⟨rfl,hE1⟩;replace HO:=hid (HO.out.ext hE1);replace hX:=hX.trans hE1;clear hE1;go_wp2_with fail;refine (hG.out _ (HL.out.ext hX)).mono ?_;rintro e w1 ⟨rfl,hE1⟩;replace HO:=hid (HO.out.ext hE1);replace hX:=hX.trans hE1;clear hE1;obtain ⟨q0,q1,f0,f1,r0,r1,hF⟩:=Qk hX (Nat.le_refl _) HO.out (I x) (I y);have Hres:=hid (show YM w (.agg #[I x,I y]) (.returned (.agg #[I x,I y])) _ from ⟨rfl,hF.out⟩);go_wp2_with fail;refine bodyPost_ret (v := .agg #[I x,I y]) (by simp [results,Tryz.results130,go_sem,r0,r1]) rfl Hres.out
  ·rw [decide_eq_false (by omega)] at h1;clear hg1 E1
   go_enter Tryz.func130,Tryz.ntmps130
   go_wp2_with fail;refine (hs.out _).mono ?_;rintro e w1 ⟨rfl,hE1⟩;replace HO:=hid (HO.out.ext hE1);replace hX:=hX.trans hE1;clear hE1;go_wp2_with fail;refine (hG.out _ (HL.out.ext hX)).mono ?_;rintro e w1 ⟨rfl,hE1⟩;replace HO:=hid (HO.out.ext hE1);replace hX:=hX.trans hE1;clear hE1;go_wp2_with fail;refine (hD1.out _ (HL.out.ext hX)).mono ?_;rintro e w1 ⟨rfl,hE1⟩;replace HO:=hid (HO.out.ext hE1);replace hX:=hX.trans hE1;clear hE1;go_wp2_with fail;refine (hD2.out _ (HL.out.ext hX)).mono ?_;rintro e w1 ⟨rfl,hE1⟩;replace HO:=hid (HO.out.ext hE1);replace hX:=hX.trans hE1;clear hE1;obtain ⟨q0,q1,f0,f1,r0,r1,hF⟩:=Qk hX (Nat.le_refl _) HO.out (I x) (I y);have Hres:=hid (show YM w (.agg #[I x,I y]) (.returned (.agg #[I x,I y])) _ from ⟨rfl,hF.out⟩);go_wp2_with fail;refine bodyPost_ret (v := .agg #[I x,I y]) (by simp [results,Tryz.results130,go_sem,r0,r1]) rfl Hres.out
theorem KgQ {n d:Int} (hn:nd n<LIM) (hd:nd d<LIM) (h0:d≠0) {w:World} (hL:Laid w) :
  Calls Tryz.prog 76 #[I n,I d] w λe w'=>e = .returned (.tuple #[.agg #[I (qn n d),I (qd n d)],.int .i64 0])/\Ext w w':=by
 have HL:=hid hL;have hs:=hid (ZI d);have hl:=hid (λw hL=>YA (w:=w) hn hd h0 hL);have hsg:(d.sign==0)=false:=beq_eq_false_iff_ne.2 (λh=>h0 (Int.sign_eq_zero_iff_zero.1 h));generalize d.sign=sg at *;generalize qn n d=x at *;generalize qd n d=y at *;have HO:=hid (Qq w 84 (.string ⟨#[]⟩) (.string ⟨#[]⟩));have hX:Ext w (w.alloc (.cells #[.string ⟨#[]⟩,.string ⟨#[]⟩] 84)):=(Ext.refl w).alloc _;clear hn hd h0 hL
 go_enter Tryz.func76,Tryz.ntmps76
 go_wp2_with fail;refine (hs.out _).mono ?_;rintro e w1 ⟨rfl,hE1⟩;replace HO:=hid (HO.out.ext hE1);replace hX:=hX.trans hE1;go_wp2_with fail;refine (hl.out _ (HL.out.ext hX)).mono ?_;rintro e w2 ⟨rfl,hE2⟩;replace HO:=hid (HO.out.ext hE2);replace hX:=hX.trans hE2;obtain ⟨q0,q1,f0,f1,r0,r1,hF⟩:=Qk hX (Nat.le_refl _) HO.out (I x) (I y);have Hres:=hid (show YM w (.tuple #[.agg #[I x,I y],.int .i64 0]) (.returned (.tuple #[.agg #[I x,I y],.int .i64 0])) _ from ⟨rfl,hF.out⟩);go_wp2_with fail;refine bodyPost_ret (v := .tuple #[.agg #[I x,I y],.int .i64 0]) (by simp [results,Tryz.results76,go_sem,r0,r1]) rfl Hres.out
theorem KcT {n d:Int} (hn : -9223372036854775808<=n/\n<=9223372036854775807) (hd : -9223372036854775808<=d/\d<=9223372036854775807) (h0:d≠0) {w:World} (hL:Laid w) :
  Calls Tryz.prog 33 #[.int .i64 n,.int .i64 d] w λe w'=>e = .returned (.tuple #[.agg #[I (qn n d),I (qd n d)],.int .i64 0])/\Ext w w':=by
 have HL:=hid hL;have h1:=hid (λw hL=>Qa (w:=w) hn.1 hn.2 hL);have h2:=hid (λw hL=>Qa (w:=w) hd.1 hd.2 hL);have hl:=hid (λw hL=>KgQ (n:=n) (d:=d) (w:=w) (by have:=KM (u:=n.natAbs) (k:=20) (by omega) (by omega);show Lib.nDigits _<LIM;unfold LIM;omega) (by have:=KM (u:=d.natAbs) (k:=20) (by omega) (by omega);show Lib.nDigits _<LIM;unfold LIM;omega) h0 hL);generalize qn n d=x at *;generalize qd n d=y at *;have HO:=hid (Qq w 84 (.string ⟨#[]⟩) (.string ⟨#[]⟩));have hX:Ext w (w.alloc (.cells #[.string ⟨#[]⟩,.string ⟨#[]⟩] 84)):=(Ext.refl w).alloc _;clear hn hd h0 hL
 go_enter Tryz.func33,Tryz.ntmps33
 go_wp2_with fail;refine (h1.out _ (HL.out.ext hX)).mono ?_;rintro e w1 ⟨rfl,hE1⟩;replace HO:=hid (HO.out.ext hE1);replace hX:=hX.trans hE1;go_wp2_with fail;refine (h2.out _ (HL.out.ext hX)).mono ?_;rintro e w2 ⟨rfl,hE2⟩;replace HO:=hid (HO.out.ext hE2);replace hX:=hX.trans hE2;go_wp2_with fail;refine (hl.out _ (HL.out.ext hX)).mono ?_;rintro e w3 ⟨rfl,hE3⟩;replace HO:=hid (HO.out.ext hE3);replace hX:=hX.trans hE3;obtain ⟨q0,q1,f0,f1,r0,r1,hF⟩:=Qk hX (Nat.le_refl _) HO.out (I x) (I y);have Hres:=hid (show YM w (.tuple #[.agg #[I x,I y],.int .i64 0]) (.returned (.tuple #[.agg #[I x,I y],.int .i64 0])) _ from ⟨rfl,hF.out⟩);go_wp2_with fail;refine bodyPost_ret (v := .tuple #[.agg #[I x,I y],.int .i64 0]) (by simp [results,Tryz.results33,go_sem,r0,r1]) rfl Hres.out
theorem YV (w:World) (T:TypeId) (a b c d e f:Value) : ∃X,((w.alloc (.cells #[a,b] T)).alloc (.cells #[c,d] T)).alloc (.cells #[e,f] T)=X/\Ext w X /\
  X.cell? ⟨w.heap.size,0,none⟩=some a/\X.cell? ⟨w.heap.size,1,none⟩=some b/\X.cell? ⟨w.heap.size+1,0,none⟩=some c/\X.cell? ⟨w.heap.size+1,1,none⟩=some d /\
  Kd T w.heap.size X (w.heap.size+1+1) 2 [e,f]:=by
 have h1:=Qq w T a b;have h2:=Qq (w.alloc (.cells #[a,b] T)) T c d;have h3:=Qq ((w.alloc (.cells #[a,b] T)).alloc (.cells #[c,d] T)) T e f;have x2:Ext (w.alloc (.cells #[a,b] T)) ((w.alloc (.cells #[a,b] T)).alloc (.cells #[c,d] T)):=(Ext.refl _).alloc _;have x3:Ext ((w.alloc (.cells #[a,b] T)).alloc (.cells #[c,d] T)) (((w.alloc (.cells #[a,b] T)).alloc (.cells #[c,d] T)).alloc (.cells #[e,f] T)):=(Ext.refl _).alloc _;have x1:Ext w (w.alloc (.cells #[a,b] T)):=(Ext.refl _).alloc _;simp only [World.size_alloc] at h2 h3;exact ⟨_,rfl,(x1.trans x2).trans x3,(x2.trans x3).cell (h1.cell (j:=0) (by simp)),(x2.trans x3).cell (h1.cell (j:=1) (by simp)),x3.cell (h2.cell (j:=0) (by simp)),x3.cell (h2.cell (j:=1) (by simp)),h3.mono (by omega)⟩
theorem Kkw (w:World) (T:TypeId) (a b e f:Value) : ∃X,(w.alloc (.cells #[a,b] T)).alloc (.cells #[e,f] T)=X/\Ext w X /\
  X.cell? ⟨w.heap.size,0,none⟩=some a/\X.cell? ⟨w.heap.size,1,none⟩=some b/\Kd T w.heap.size X (w.heap.size+1) 2 [e,f]:=by
 have h1:=Qq w T a b;have h3:=Qq (w.alloc (.cells #[a,b] T)) T e f;have x3:Ext (w.alloc (.cells #[a,b] T)) ((w.alloc (.cells #[a,b] T)).alloc (.cells #[e,f] T)):=(Ext.refl _).alloc _;have x1:Ext w (w.alloc (.cells #[a,b] T)):=(Ext.refl _).alloc _;simp only [World.size_alloc] at h3;exact ⟨_,rfl,x1.trans x3,x3.cell (h1.cell (j:=0) (by simp)),x3.cell (h1.cell (j:=1) (by simp)),h3.mono (by omega)⟩
theorem KgP {a b:Int} (ha:nd a<=LIM) (w:World) :
  Calls Tryz.prog 122 #[.agg #[I a,I b]] w λe w'=>e = .returned (.agg #[I (-a),I b])/\Ext w w':=by
 have hN:=hid (J5 (z:=a) ha);obtain ⟨m,hm⟩ : ∃m,m = -a:=⟨_,rfl⟩
 rw [<-hm] at hN ⊢;obtain ⟨X,hXe,hX,c0,c1,hO⟩:=Kkw w 84 (I a) (I b) (.string ⟨#[]⟩) (.string ⟨#[]⟩);have HO:=hid hO;obtain ⟨bs,hbs⟩ : ∃bs,bs=w.heap.size:=⟨_,rfl⟩
 clear hO hm ha
 go_enter Tryz.func122,Tryz.ntmps122
 go_wp2_with fail;rw [<-hbs] at c0 c1 HO ⊢;have hbs2:w.heap.size<=bs+1:=by omega
 clear hXe hbs;have d7:Ext X X.drew:=(Ext.refl X).drew;refine Kf (S:=λW=>Ext X W) 5 (by kernel_rfl) (by simp) ?_;intro inv;refine tkS (i:=0) (v := .pointer (some ⟨bs,0,none⟩)) rfl d7 inv ?_;intro inv;go_simp;refine tkA (i:=1) (v:=I a) rfl (.inl ⟨by rfl,λW hW=>by have z0:=hW.cell c0;go_simp⟩) d7 inv ?_;intro inv;go_simp;refine tkS (i:=3) (v := .pointer (some ⟨bs,1,none⟩)) rfl d7 inv ?_;intro inv;go_simp;refine tkA (i:=4) (v:=I b) rfl (.inl ⟨by rfl,λW hW=>by have z0:=hW.cell c1;go_simp⟩) d7 inv ?_;intro inv;go_simp;refine Ki (i:=2) rfl (by kernel_rfl) (λK0 hK0 => ?_);go_simp;refine (hN.out _).mono ?_;rintro e w1 ⟨rfl,hE1⟩;have d1:=d7.trans hE1;refine hK0 _ _ d1 ?_;clear hK0;refine Kg (by kernel_rfl) ?_;replace HO:=hid (HO.out.ext d1);replace hX:=hX.trans d1;obtain ⟨q0,q1,f0,f1,r0,r1,hF⟩:=Qk hX hbs2 HO.out (I m) (I b);have Hres:=hid (show YM w (.agg #[I m,I b]) (.returned (.agg #[I m,I b])) _ from ⟨rfl,hF.out⟩);go_wp2_with fail;refine bodyPost_ret (v := .agg #[I m,I b]) (by simp [results,Tryz.results122,go_sem,r0,r1]) rfl Hres.out
theorem Kmc {a b c d:Int} (ha:nd a<=100000000) (hb:nd b<=100000000) (hc:nd c<=100000000) (hd:nd d<=100000000) (hb0:0<b) (hd0:0<d) {w:World} (hL:Laid w) :
  Calls Tryz.prog 121 #[.agg #[I a,I b],.agg #[I c,I d]] w λe w'=>e = .returned (.agg #[I (qn (a*c) (b*d)),I (qd (a*c) (b*d))])/\Ext w w':=by
 have HL:=hid hL;have n1:=QF a c;have n2:=QF b d;have hbd:0<b*d:=Int.mul_pos hb0 hd0;have hl:=hid (λw hL=>YA (n:=a*c) (d:=b*d) (w:=w) (by unfold LIM;omega) (by unfold LIM;omega) (by omega) hL);have hm1:=hid (λw hL=>Zk (a:=a) (b:=c) (w:=w) (by unfold LIM;omega) hL);have hm2:=hid (λw hL=>Zk (a:=b) (b:=d) (w:=w) (by unfold LIM;omega) hL);have hb1:=hid (XY (a:=a) (b:=b) (by unfold LIM;omega) (by unfold LIM;omega));have hb2:=hid (XY (a:=c) (b:=d) (by unfold LIM;omega) (by unfold LIM;omega))
 have Hof:=hid (λ(h1:(Km 9 a&&Km 9 b)=true) (h2:(Km 9 c&&Km 9 d)=true) w hL=>Kjs (n:=a*c) (d:=b*d) (by
  simp only [Bool.and_eq_true] at h1 h2;have f1:=QJ h1.1;have f2:=QJ h2.1
  have:=Nat.mul_le_mul (Nat.le_of_lt f1) (Nat.le_of_lt f2);rw [<-Int.natAbs_mul] at this;omega) (by
  simp only [Bool.and_eq_true] at h1 h2;have f1:=QJ h1.2;have f2:=QJ h2.2
  have:=Nat.mul_le_mul (Nat.le_of_lt f1) (Nat.le_of_lt f2);rw [<-Int.natAbs_mul] at this;omega) (w:=w) hL)
 have Hw:=hid (λ(h1:(Km 9 a&&Km 9 b)=true) (h2:(Km 9 c&&Km 9 d)=true)=>(show IntKind.i64.wrap (a*c)=a*c/\IntKind.i64.wrap (b*d)=b*d from by
  simp only [Bool.and_eq_true] at h1 h2;have f1:=QJ h1.1;have f2:=QJ h2.1
  have f3:=QJ h1.2;have f4:=QJ h2.2
  have g1:=Nat.mul_le_mul (Nat.le_of_lt f1) (Nat.le_of_lt f2);rw [<-Int.natAbs_mul] at g1
  have g2:=Nat.mul_le_mul (Nat.le_of_lt f3) (Nat.le_of_lt f4);rw [<-Int.natAbs_mul] at g2
  exact ⟨IntWalk.i64_in _ (by omega),IntWalk.i64_in _ (by omega)⟩))
 obtain ⟨x,hx⟩ : ∃x,x=qn (a*c) (b*d):=⟨_,rfl⟩
 obtain ⟨y,hy⟩ : ∃y,y=qd (a*c) (b*d):=⟨_,rfl⟩
 rw [<-hx,<-hy] at hl ⊢;rw [<-hx,<-hy] at Hof;have v1:Km 9 a=true->(if Km 9 a=true then a else 0)=a:=λh=>if_pos h
 have v2:Km 9 b=true->(if Km 9 b=true then b else 0)=b:=λh=>if_pos h
 have v3:Km 9 c=true->(if Km 9 c=true then c else 0)=c:=λh=>if_pos h
 have v4:Km 9 d=true->(if Km 9 d=true then d else 0)=d:=λh=>if_pos h
 clear hx hy n1 n2 hbd ha hb hc hd hb0 hd0 hL;obtain ⟨X,hXe,hX,c0,c1,c2,c3,hO⟩:=YV w 84 (I a) (I b) (I c) (I d) (.string ⟨#[]⟩) (.string ⟨#[]⟩);have HO:=hid hO;obtain ⟨bs,hbs⟩ : ∃bs,bs=w.heap.size:=⟨_,rfl⟩
 have hsz:=hX.size;clear hO
 cases h1:(Km 9 a&&Km 9 b)
 ·rw [h1] at hb1;generalize (if Km 9 a=true then a else 0)=a' at *;generalize (if Km 9 b=true then b else 0)=b' at *;clear Hof Hw h1 v1 v2 v3 v4 hb2
  go_enter Tryz.func121,Tryz.ntmps121
  go_wp2_with fail;rw [<-hbs] at c0 c1 c2 c3 HO ⊢;have hbs2:w.heap.size<=bs+1+1:=by omega
  clear hXe hbs;refine (hb1.out _).mono ?_;rintro e w1 ⟨rfl,hE1⟩;replace c0:=hE1.cell c0;replace c1:=hE1.cell c1;replace c2:=hE1.cell c2;replace c3:=hE1.cell c3;replace HO:=hid (HO.out.ext hE1);replace hX:=hX.trans hE1;clear hE1;go_wp2_with fail;generalize w1=X at *;have d7:Ext X X.drew:=(Ext.refl X).drew;refine Kf (S:=λW=>Ext X W) 11 (by kernel_rfl) (by simp) ?_;intro inv;refine tkS (i:=0) (v := .pointer (some ⟨bs,0,none⟩)) rfl d7 inv ?_;intro inv;go_simp;refine tkA (i:=1) (v:=I a) rfl (.inl ⟨by rfl,λW hW=>by have z0:=hW.cell c0;go_simp⟩) d7 inv ?_;intro inv;go_simp;refine tkS (i:=2) (v := .pointer (some ⟨bs+1,0,none⟩)) rfl d7 inv ?_;intro inv;go_simp;refine tkA (i:=3) (v:=I c) rfl (.inl ⟨by rfl,λW hW=>by have z0:=hW.cell c2;go_simp⟩) d7 inv ?_;intro inv;go_simp;refine tkS (i:=5) (v := .pointer (some ⟨bs,1,none⟩)) rfl d7 inv ?_;intro inv;go_simp;refine tkA (i:=6) (v:=I b) rfl (.inl ⟨by rfl,λW hW=>by have z0:=hW.cell c1;go_simp⟩) d7 inv ?_;intro inv;go_simp;refine tkS (i:=7) (v := .pointer (some ⟨bs+1,1,none⟩)) rfl d7 inv ?_;intro inv;go_simp;refine tkA (i:=8) (v:=I d) rfl (.inl ⟨by rfl,λW hW=>by have z0:=hW.cell c3;go_simp⟩) d7 inv ?_;intro inv;go_simp;refine Ki (i:=4) rfl (by kernel_rfl) (λK0 hK0 => ?_);go_simp;refine (hm1.out _ (HL.out.ext (hX.trans d7))).mono ?_;rintro e w0 ⟨rfl,hF0⟩;have e0:=d7.trans hF0;refine hK0 _ _ e0 ?_;clear hK0;refine Ki (i:=9) rfl (by kernel_rfl) (λK1 hK1 => ?_);go_simp
  refine (hm2.out _ (HL.out.ext (hX.trans e0))).mono ?_;rintro e w1 ⟨rfl,hF1⟩;have e1:=e0.trans hF1;refine hK1 _ _ e1 ?_;clear hK1;refine Ki (i:=10) rfl (by kernel_rfl) (λK2 hK2 => ?_);go_simp;refine (hl.out _ (HL.out.ext (hX.trans e1))).mono ?_;rintro e w2 ⟨rfl,hF2⟩;have e2:=e1.trans hF2;refine hK2 _ _ e2 ?_;clear hK2;refine Kg (by kernel_rfl) ?_;replace HO:=hid (HO.out.ext e2);replace hX:=hX.trans e2;obtain ⟨q0,q1,f0,f1,r0,r1,hF⟩:=Qk hX hbs2 HO.out (I x) (I y);have Hres:=hid (show YM w (.agg #[I x,I y]) (.returned (.agg #[I x,I y])) _ from ⟨rfl,hF.out⟩);go_wp2_with fail;refine bodyPost_ret (v := .agg #[I x,I y]) (by simp [results,Tryz.results121,go_sem,r0,r1]) rfl Hres.out
 ·rw [h1] at hb1
  cases h2:(Km 9 c&&Km 9 d)
  ·rw [h2] at hb2;generalize (if Km 9 a=true then a else 0)=a' at *;generalize (if Km 9 b=true then b else 0)=b' at *;generalize (if Km 9 c=true then c else 0)=c' at *;generalize (if Km 9 d=true then d else 0)=d' at *;clear Hof Hw h1 h2 v1 v2 v3 v4
   go_enter Tryz.func121,Tryz.ntmps121
   go_wp2_with fail;rw [<-hbs] at c0 c1 c2 c3 HO ⊢;have hbs2:w.heap.size<=bs+1+1:=by omega
   clear hXe hbs;refine (hb1.out _).mono ?_;rintro e w1 ⟨rfl,hE1⟩;replace c0:=hE1.cell c0;replace c1:=hE1.cell c1;replace c2:=hE1.cell c2;replace c3:=hE1.cell c3;replace HO:=hid (HO.out.ext hE1);replace hX:=hX.trans hE1;clear hE1;go_wp2_with fail;refine (hb2.out _).mono ?_;rintro e w2 ⟨rfl,hE1⟩;replace c0:=hE1.cell c0;replace c1:=hE1.cell c1;replace c2:=hE1.cell c2;replace c3:=hE1.cell c3;replace HO:=hid (HO.out.ext hE1);replace hX:=hX.trans hE1;clear hE1;go_wp2_with fail;generalize w2=X at *;have d7:Ext X X.drew:=(Ext.refl X).drew;refine Kf (S:=λW=>Ext X W) 11 (by kernel_rfl) (by simp) ?_;intro inv;refine tkS (i:=0) (v := .pointer (some ⟨bs,0,none⟩)) rfl d7 inv ?_;intro inv;go_simp;refine tkA (i:=1) (v:=I a) rfl (.inl ⟨by rfl,λW hW=>by have z0:=hW.cell c0;go_simp⟩) d7 inv ?_;intro inv;go_simp;refine tkS (i:=2) (v := .pointer (some ⟨bs+1,0,none⟩)) rfl d7 inv ?_;intro inv;go_simp;refine tkA (i:=3) (v:=I c) rfl (.inl ⟨by rfl,λW hW=>by have z0:=hW.cell c2;go_simp⟩) d7 inv ?_;intro inv;go_simp;refine tkS (i:=5) (v := .pointer (some ⟨bs,1,none⟩)) rfl d7 inv ?_;intro inv;go_simp;refine tkA (i:=6) (v:=I b) rfl (.inl ⟨by rfl,λW hW=>by have z0:=hW.cell c1;go_simp⟩) d7 inv ?_;intro inv;go_simp;refine tkS (i:=7) (v := .pointer (some ⟨bs+1,1,none⟩)) rfl d7 inv ?_;intro inv;go_simp;refine tkA (i:=8) (v:=I d) rfl (.inl ⟨by rfl,λW hW=>by have z0:=hW.cell c3;go_simp⟩) d7 inv ?_;intro inv;go_simp
   refine Ki (i:=4) rfl (by kernel_rfl) (λK0 hK0 => ?_);go_simp;refine (hm1.out _ (HL.out.ext (hX.trans d7))).mono ?_;rintro e w0 ⟨rfl,hF0⟩;have e0:=d7.trans hF0;refine hK0 _ _ e0 ?_;clear hK0;refine Ki (i:=9) rfl (by kernel_rfl) (λK1 hK1 => ?_);go_simp;refine (hm2.out _ (HL.out.ext (hX.trans e0))).mono ?_;rintro e w1 ⟨rfl,hF1⟩;have e1:=e0.trans hF1;refine hK1 _ _ e1 ?_;clear hK1;refine Ki (i:=10) rfl (by kernel_rfl) (λK2 hK2 => ?_);go_simp;refine (hl.out _ (HL.out.ext (hX.trans e1))).mono ?_;rintro e w2 ⟨rfl,hF2⟩;have e2:=e1.trans hF2;refine hK2 _ _ e2 ?_;clear hK2;refine Kg (by kernel_rfl) ?_;replace HO:=hid (HO.out.ext e2);replace hX:=hX.trans e2;obtain ⟨q0,q1,f0,f1,r0,r1,hF⟩:=Qk hX hbs2 HO.out (I x) (I y);have Hres:=hid (show YM w (.agg #[I x,I y]) (.returned (.agg #[I x,I y])) _ from ⟨rfl,hF.out⟩);go_wp2_with fail;refine bodyPost_ret (v := .agg #[I x,I y]) (by simp [results,Tryz.results121,go_sem,r0,r1]) rfl Hres.out
  ·rw [h2] at hb2;obtain ⟨hw1,hw2⟩:=Hw.out h1 h2;have hof:=hid (Hof.out h1 h2);simp only [Bool.and_eq_true] at h1 h2;rw [v1 h1.1,v2 h1.2] at hb1;rw [v3 h2.1,v4 h2.2] at hb2;clear Hof Hw h1 h2 v1 v2 v3 v4
   go_enter Tryz.func121,Tryz.ntmps121
   go_wp2_with fail;rw [<-hbs] at c0 c1 c2 c3 HO ⊢;have hbs2:w.heap.size<=bs+1+1:=by omega
   clear hXe hbs;refine (hb1.out _).mono ?_;rintro e w1 ⟨rfl,hE1⟩;replace c0:=hE1.cell c0;replace c1:=hE1.cell c1;replace c2:=hE1.cell c2;replace c3:=hE1.cell c3;replace HO:=hid (HO.out.ext hE1);replace hX:=hX.trans hE1;clear hE1;go_wp2_with fail;refine (hb2.out _).mono ?_;rintro e w2 ⟨rfl,hE1⟩;replace c0:=hE1.cell c0;replace c1:=hE1.cell c1;replace c2:=hE1.cell c2;replace c3:=hE1.cell c3;replace HO:=hid (HO.out.ext hE1);replace hX:=hX.trans hE1;clear hE1;go_wp2_with fail;refine (hof.out _ (HL.out.ext hX)).mono ?_;rintro e w3 ⟨rfl,hE1⟩;replace c0:=hE1.cell c0;replace c1:=hE1.cell c1;replace c2:=hE1.cell c2;replace c3:=hE1.cell c3;replace HO:=hid (HO.out.ext hE1);replace hX:=hX.trans hE1;clear hE1;obtain ⟨q0,q1,f0,f1,r0,r1,hF⟩:=Qk hX hbs2 HO.out (I x) (I y);have Hres:=hid (show YM w (.agg #[I x,I y]) (.returned (.agg #[I x,I y])) _ from ⟨rfl,hF.out⟩);go_wp2_with fail;refine bodyPost_ret (v := .agg #[I x,I y]) (by simp [results,Tryz.results121,go_sem,r0,r1]) rfl Hres.out
end
end Go.Proofs.YtmhfccigejcphaaGreatDoor
