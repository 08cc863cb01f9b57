/- Part 4, beside the shared parts, of the proof of the claim: contracts and plain laws; no condition. -/
import Derived.Test.YtjnpakablgommaaGreatDoorX03
set_option maxRecDepth 100000
namespace Go.Proofs.YtjnpakablgommaaGreatDoor
open Go.RowKit Go.Sort
open Hnf (V Span)
def mtC:Mx:=[[4,-4,1]]
def mtM:Mx:=[[1,0,-4],[0,1,4]]
def mtP:List Int:=[2,3,5]
theorem mtM_isH:IsH 3 [0,1] mtM where
 rect:=by unfold Rect; decide
 len:=rfl
 lt:=by decide
 inc:=fun i k h1 h2=>by
  have:k<2:=h2
  obtain rfl:k=1:=by omega
  obtain rfl:i=0:=by omega
  decide
 left:=fun i hi j hj=>by
  have:i<2:=hi
  rcases (show i=0∨i=1 by omega) with rfl | rfl
  ·have:j<0:=hj
   omega
  ·have:j<1:=hj
   obtain rfl:j=0:=by omega
   decide
 pos:=by decide
 red:=fun i k h1 h2=>by
  have:k<2:=h2
  obtain rfl:k=1:=by omega
  obtain rfl:i=0:=by omega
  decide
theorem mtC_isH:IsH 3 [0] mtC where
 rect:=by unfold Rect; decide
 len:=rfl
 lt:=by decide
 inc:=fun i k h1 h2=>by
  have:k<1:=h2
  omega
 left:=fun i hi j hj=>by
  have:i<1:=hi
  obtain rfl:i=0:=by omega
  have:j<0:=hj
  omega
 pos:=by decide
 red:=fun i k h1 h2=>by
  have:k<1:=h2
  omega
theorem vr3 (a b c:Int) (y:V):dotV 3 (vr [a,b,c]) y=a*y 0+b*y 1+c*y 2:=by
 simp [dotV,sumZ,vr]
theorem vr3_at (a b c:Int) (j:Nat) (h:3≤j):vr [a,b,c] j=0:=by
 show [a,b,c].getD j 0=0
 rw [List.getD_eq_getElem?_getD,List.getElem?_eq_none (by simpa using h)]; rfl
theorem mt_kM:KerL 3 (latM mtC) mtM:=by
 refine ⟨⟨_,mtM_isH⟩,fun y=>⟨fun h => ?_,fun ⟨h1,h2⟩ => ?_⟩⟩
 ·obtain ⟨t,rfl⟩:=span_cmb.1 h
  refine ⟨fun v hv => ?_,fun i hi => ?_⟩
  ·simp only [latM,mtC,List.map_cons,List.map_nil,List.mem_cons,List.not_mem_nil,or_false] at hv
   subst hv
   rw [vr3]
   simp [cmb,sumZ,eM,mtM]
   omega
  ·simp only [cmb,sumZ,mtM,List.length_cons,List.length_nil]
   have e1:eM [[1,0,-4],[0,1,4]] 0 i=0:=vr3_at 1 0 (-4) i hi
   have e2:eM [[1,0,-4],[0,1,4]] 1 i=0:=vr3_at 0 1 4 i hi
   simp [e1,e2]
 ·have h3:=h1 (vr [4,-4,1]) (by simp [latM,mtC])
  rw [vr3] at h3
  refine span_cmb.2 ⟨y,?_⟩
  funext j
  simp only [cmb,sumZ,mtM,List.length_cons,List.length_nil]
  rcases (show j=0∨j=1∨j=2∨3≤j by omega) with rfl | rfl | rfl | hj
  ·simp [eM]
  ·simp [eM]
  ·simp [eM]; omega
  ·have e1:eM [[1,0,-4],[0,1,4]] 0 j=0:=vr3_at 1 0 (-4) j hj
   have e2:eM [[1,0,-4],[0,1,4]] 1 j=0:=vr3_at 0 1 4 j hj
   simp [e1,e2,h2 j hj]
theorem mt_kC:KerL 3 (latM mtM) mtC:=by
 refine ⟨⟨_,mtC_isH⟩,fun y=>⟨fun h => ?_,fun ⟨h1,h2⟩ => ?_⟩⟩
 ·obtain ⟨t,rfl⟩:=span_cmb.1 h
  refine ⟨fun v hv => ?_,fun i hi => ?_⟩
  ·simp only [latM,mtM,List.map_cons,List.map_nil,List.mem_cons,List.not_mem_nil,or_false] at hv
   rcases hv with rfl | rfl
   ·rw [vr3]; simp [cmb,sumZ,eM,mtC]; omega
   ·rw [vr3]; simp [cmb,sumZ,eM,mtC]; omega
  ·simp only [cmb,sumZ,mtC,List.length_cons,List.length_nil]
   have e1:eM [[4,-4,1]] 0 i=0:=vr3_at 4 (-4) 1 i hi
   simp [e1]
 ·have h3:=h1 (vr [1,0,-4]) (by simp [latM,mtM])
  have h4:=h1 (vr [0,1,4]) (by simp [latM,mtM])
  rw [vr3] at h3 h4
  refine span_cmb.2 ⟨fun _=>y 2,?_⟩
  funext j
  simp only [cmb,sumZ,mtC,List.length_cons,List.length_nil]
  rcases (show j=0∨j=1∨j=2∨3≤j by omega) with rfl | rfl | rfl | hj
  ·simp [eM]; omega
  ·simp [eM]; omega
  ·simp [eM]
  ·have e1:eM [[4,-4,1]] 0 j=0:=vr3_at 4 (-4) 1 j hj
   simp [e1,h2 j hj]
theorem vr3_abs {a b c:Int} {B:Nat} (ha:a.natAbs≤B) (hb:b.natAbs≤B) (hc:c.natAbs≤B) (j:Nat):(vr [a,b,c] j).natAbs≤B:=by
 rcases (show j=0∨j=1∨j=2∨3≤j by omega) with rfl | rfl | rfl | hj
 ·exact ha
 ·exact hb
 ·exact hc
 ·rw [vr3_at a b c j hj]; simp
theorem mt_uC : ∃ qs d w,KSet 3 (latM mtC) qs mtC 1000000 d w:=by
 obtain ⟨d,w,h⟩:=kset_self (n:=3) (C:=4) (U:=latM mtC) (qs:=[0]) (K:=mtC) (d:=4) (w:=fun _=>vr [4,-4,1]) mtC_isH ⟨by decide,fun k hk => .mem (by simp [latM,mtC]),fun k hk s hs=>by
  have h1:k<1:=hk
  have h2:s<1:=hs
  obtain rfl:k=0:=by omega
  obtain rfl:s=0:=by omega
  rfl,fun k hk j=>vr3_abs (by decide) (by decide) (by decide) j⟩ (fun v hv => .mem hv) (fun _=>by decide)
 exact ⟨_,d,w,h⟩
theorem mt_uM : ∃ qs d w,KSet 3 (latM mtM) qs mtM 1000000 d w:=by
 obtain ⟨d,w,h⟩:=kset_self (n:=3) (C:=4) (U:=latM mtM) (qs:=[0,1]) (K:=mtM) (d:=1) (w:=fun k=>vr (mtM.getD k [])) mtM_isH ⟨by decide,fun k hk => .mem (by
  have h1:k<2:=hk
  rcases (show k=0∨k=1 by omega) with rfl | rfl <;> simp [latM,mtM]),fun k hk s hs=>by
  have h1:k<2:=hk
  have h2:s<2:=hs
  rcases (show k=0∨k=1 by omega) with rfl | rfl <;> rcases (show s=0∨s=1 by omega) with rfl | rfl <;> rfl,fun k hk j=>by
  have h1:k<2:=hk
  rcases (show k=0∨k=1 by omega) with rfl | rfl
  ·exact vr3_abs (a:=1) (b:=0) (c := -4) (by decide) (by decide) (by decide) j
  ·exact vr3_abs (a:=0) (b:=1) (c:=4) (by decide) (by decide) (by decide) j⟩ (fun v hv => .mem hv) (fun _=>by decide)
 exact ⟨_,d,w,h⟩
theorem mt_ok:TmOK mtP mtC mtM where
 pr:=by intro x hx; simp [mtP] at hx; unfold SmP; omega
 inc:=fun i h=>by
  have:i+1<3:=h
  rcases (show i=0∨i=1 by omega) with rfl | rfl
  ·show (2:Int)<3; decide
  ·show (3:Int)<5; decide
 p0:=by decide
 p4:=by decide
 kM:=mt_kM
 kC:=mt_kC
 sC:=by unfold SmK; decide
 sM:=by unfold SmK; decide
 bC:=by decide
 bM:=by decide
 uC:=mt_uC
 uM:=mt_uM
end Go.Proofs.YtjnpakablgommaaGreatDoor
namespace Go.Proofs.YtjnpakablgommaaGreatDoor
open Go.RowKit Go.Sort
theorem row3N {W:World} {b:Nat} {a0 a1 a2:Int} (h0:W.cell? ⟨b,0,none⟩=some (.int .i64 a0)) (h1:W.cell? ⟨b,1,none⟩=some (.int .i64 a1)) (h2:W.cell? ⟨b,2,none⟩=some (.int .i64 a2)):RowR W (.slice (some ⟨b,0,none⟩) 3 3) [a0,a1,a2] :=
 rowN (l:=[a0,a1,a2]) rfl fun i hi=>by
  have hi3:i<3:=hi
  rcases (show i=0∨i=1∨i=2 by omega) with rfl | rfl | rfl
  ·exact h0
  ·exact h1
  ·exact h2
theorem matN {W:World} {b n:Nat} {M:Mx} {vs:List Value} (hn:M.length=n) (hv:vs.length=n) (hc : ∀ i (h:i<vs.length),W.cell? ⟨b,i,none⟩=some vs[i]) (hr : ∀ i (h:i<M.length) (h':i<vs.length),RowR W vs[i] M[i]):MatR W (.slice (some ⟨b,0,none⟩) n n) M:=by
 refine ⟨_,b,0,n,vs,by rw [hn],by omega,by omega,⟨fun _=>rfl,fun i u hu => ?_⟩,hr⟩
 obtain ⟨hi,rfl⟩:=List.getElem?_eq_some_iff.1 hu
 rw [Nat.zero_add]; exact hc i hi
theorem mat1N {W:World} {b:Nat} {v0:Value} {r0:List Int} (h0:W.cell? ⟨b,0,none⟩=some v0) (k0:RowR W v0 r0):MatR W (.slice (some ⟨b,0,none⟩) 1 1) [r0] :=
 matN (vs:=[v0]) rfl rfl (fun i hi=>by
  have hi3:i<1:=hi
  obtain rfl:i=0:=by omega
  exact h0) (fun i hi _=>by
  have hi3:i<1:=hi
  obtain rfl:i=0:=by omega
  exact k0)
theorem mat2N {W:World} {b:Nat} {v0 v1:Value} {r0 r1:List Int} (h0:W.cell? ⟨b,0,none⟩=some v0) (h1:W.cell? ⟨b,1,none⟩=some v1) (k0:RowR W v0 r0) (k1:RowR W v1 r1):MatR W (.slice (some ⟨b,0,none⟩) 2 2) [r0,r1] :=
 matN (vs:=[v0,v1]) rfl rfl (fun i hi=>by
  have hi3:i<2:=hi
  rcases (show i=0∨i=1 by omega) with rfl | rfl
  ·exact h0
  ·exact h1) (fun i hi _=>by
  have hi3:i<2:=hi
  rcases (show i=0∨i=1 by omega) with rfl | rfl
  ·exact k0
  ·exact k1)
def mtG:List (List Rat):=[[1,0,0],[1,0,1/4]]
theorem sz3N {W:World} {b:Nat} {r0 r1 r2:Rat} (h0:W.cell? ⟨b,0,none⟩=some (I r0.num)) (h1:W.cell? ⟨b,1,none⟩=some (I r0.den)) (h2:W.cell? ⟨b,2,none⟩=some (I r1.num)) (h3:W.cell? ⟨b,3,none⟩=some (I r1.den)) (h4:W.cell? ⟨b,4,none⟩=some (I r2.num)) (h5:W.cell? ⟨b,5,none⟩=some (I r2.den)):SzR W (.slice (some ⟨b,0,none⟩) 3 3) [r0,r1,r2]:=by
 refine ⟨_,b,0,3,rfl,Nat.le_refl _,fun _=>rfl,fun i hi => ?_⟩
 have hi3:i<3:=hi
 rcases (show i=0∨i=1∨i=2 by omega) with rfl | rfl | rfl
 ·exact ⟨h0,h1⟩
 ·exact ⟨h2,h3⟩
 ·exact ⟨h4,h5⟩
theorem gn2N {W:World} {b:Nat} {v0 v1:Value} {l0 l1:List Rat} (h0:W.cell? ⟨b,0,none⟩=some v0) (h1:W.cell? ⟨b,1,none⟩=some v1) (k0:SzR W v0 l0) (k1:SzR W v1 l1):GnR W (.slice (some ⟨b,0,none⟩) 2 2) [l0,l1]:=by
 refine ⟨_,b,0,2,[v0,v1],rfl,Nat.le_refl _,rfl,⟨fun _=>rfl,fun i u hu => ?_⟩,fun i hi hi' => ?_⟩
 ·obtain ⟨hi,rfl⟩:=List.getElem?_eq_some_iff.1 hu
  have hi3:i<2:=hi
  rw [Nat.zero_add]
  rcases (show i=0∨i=1 by omega) with rfl | rfl
  ·exact h0
  ·exact h1
 ·have hi3:i<2:=hi
  rcases (show i=0∨i=1 by omega) with rfl | rfl
  ·exact k0
  ·exact k1
theorem ev_tmp (a:Act) (t:Nat):a.eval (.tmp t)=a.tmps[t]?.getD undef:=by simp [Act.eval]
def Hd (v:Value) (n:Nat):Prop := ∃ b,v = .slice (some ⟨b,0,none⟩) n n
def mtP24:Nat→Value→World→Prop
 | 0,v,w=>Hd v 3∧RowR w v [2,3,5]
 | 1,v,w=>Hd v 3∧RowR w v [4,-4,1]
 | 2,v,w=>Hd v 1∧MatR w v [[4,-4,1]]
 | 3,v,w=>Hd v 3∧RowR w v [1,0,-4]
 | 4,v,w=>Hd v 3∧RowR w v [0,1,4]
 | 5,v,w=>Hd v 2∧MatR w v [[1,0,-4],[0,1,4]]
 | 6,v,w => ∃ b0 b1 b2,v = .agg #[.slice (some ⟨b0,0,none⟩) 3 3,.slice (some ⟨b1,0,none⟩) 1 1,.slice (some ⟨b2,0,none⟩) 2 2]∧RowR w (.slice (some ⟨b0,0,none⟩) 3 3) [2,3,5]∧MatR w (.slice (some ⟨b1,0,none⟩) 1 1) [[4,-4,1]]∧MatR w (.slice (some ⟨b2,0,none⟩) 2 2) [[1,0,-4],[0,1,4]]
 | 7,v,_=>v = .agg #[.string ⟨#[49]⟩,.string ⟨#[49]⟩]
 | 8,v,_=>v = .agg #[.string ⟨#[48]⟩,.string ⟨#[49]⟩]
 | 9,v,_=>v = .agg #[.string ⟨#[48]⟩,.string ⟨#[49]⟩]
 | 10,v,w=>Hd v 3∧SzR w v [1,0,0]
 | 11,v,_=>v = .agg #[.string ⟨#[49]⟩,.string ⟨#[49]⟩]
 | 12,v,_=>v = .agg #[.string ⟨#[48]⟩,.string ⟨#[49]⟩]
 | 13,v,_=>v = .agg #[.string ⟨#[49]⟩,.string ⟨#[52]⟩]
 | 14,v,w=>Hd v 3∧SzR w v [1,0,1/4]
 | 15,v,w=>Hd v 2∧GnR w v mtG
 | _,v,w => ∃ b0 b1 b2 b3,v = .agg #[.slice (some ⟨b0,0,none⟩) 3 3,.slice (some ⟨b1,0,none⟩) 1 1,.slice (some ⟨b2,0,none⟩) 2 2,.slice (some ⟨b3,0,none⟩) 2 2]∧RowR w (.slice (some ⟨b0,0,none⟩) 3 3) [2,3,5]∧MatR w (.slice (some ⟨b1,0,none⟩) 1 1) [[4,-4,1]]∧MatR w (.slice (some ⟨b2,0,none⟩) 2 2) [[1,0,-4],[0,1,4]]∧GnR w (.slice (some ⟨b3,0,none⟩) 2 2) mtG
theorem mtP24_ext (j:Nat) (v:Value) (w w':World) (h:mtP24 j v w) (hE:Ext w w'):mtP24 j v w':=by
 unfold mtP24 at h ⊢
 split at h
 ·exact ⟨h.1,h.2.ext hE⟩
 ·exact ⟨h.1,h.2.ext hE⟩
 ·exact ⟨h.1,h.2.ext hE⟩
 ·exact ⟨h.1,h.2.ext hE⟩
 ·exact ⟨h.1,h.2.ext hE⟩
 ·exact ⟨h.1,h.2.ext hE⟩
 ·obtain ⟨b0,b1,b2,e,k0,k1,k2⟩:=h; exact ⟨b0,b1,b2,e,k0.ext hE,k1.ext hE,k2.ext hE⟩
 ·exact h
 ·exact h
 ·exact h
 ·exact ⟨h.1,h.2.ext hE⟩
 ·exact h
 ·exact h
 ·exact h
 ·exact ⟨h.1,h.2.ext hE⟩
 ·exact ⟨h.1,h.2.ext hE⟩
 ·obtain ⟨b0,b1,b2,b3,e,k0,k1,k2,k3⟩:=h; exact ⟨b0,b1,b2,b3,e,k0.ext hE,k1.ext hE,k2.ext hE,k3.ext hE⟩
theorem four_parts:((1/4:Rat)).num=1∧(((1/4:Rat)).den:Int)=4:=by decide +kernel
theorem itoa_four:Lib.itoa 4=[52]:=by rw [show (4:Int)=((4:Nat):Int) from rfl,itoa_nat]; decide +kernel
theorem RV_one:RV ((1:Int):Rat) = .agg #[.string ⟨#[49]⟩,.string ⟨#[49]⟩]:=by
 show Value.agg #[I (((1:Int):Rat)).num,I ((((1:Int):Rat)).den:Int)]=_
 rw [show (((1:Int):Rat)).num=1 from rfl,show (((((1:Int):Rat)).den:Nat):Int)=1 from rfl]
 unfold I S; rw [itoa_one]
theorem RV_zero:RV ((0:Int):Rat) = .agg #[.string ⟨#[48]⟩,.string ⟨#[49]⟩]:=by
 show Value.agg #[I (((0:Int):Rat)).num,I ((((0:Int):Rat)).den:Int)]=_
 rw [show (((0:Int):Rat)).num=0 from rfl,show (((((0:Int):Rat)).den:Nat):Int)=1 from rfl]
 unfold I S; rw [itoa_one,itoa_zero]
theorem RV_four:RV (((1:Int):Rat)/((4:Int):Rat)) = .agg #[.string ⟨#[49]⟩,.string ⟨#[52]⟩]:=by
 have e:(((1:Int):Rat)/((4:Int):Rat))=(1/4:Rat):=rfl
 rw [e]
 show Value.agg #[I ((1/4:Rat)).num,I (((1/4:Rat)).den:Int)]=_
 rw [four_parts.1,four_parts.2]
 unfold I S; rw [itoa_one,itoa_four]
theorem I_one1:I ((1:Rat)).num = .string ⟨#[49]⟩∧I (((1:Rat)).den:Int) = .string ⟨#[49]⟩:=by
 unfold I S
 rw [show ((1:Rat)).num=1 from rfl,show (((1:Rat)).den:Int)=1 from rfl,itoa_one]; exact ⟨rfl,rfl⟩
theorem I_four4:I ((1/4:Rat)).num = .string ⟨#[49]⟩∧I (((1/4:Rat)).den:Int) = .string ⟨#[52]⟩:=by
 unfold I S
 rw [four_parts.1,four_parts.2,itoa_one,itoa_four]; exact ⟨rfl,rfl⟩
theorem mtG_ok:(∀ l∈mtG,l.length=3) ∧ ∀ l∈mtG,ShQ l:=by
 refine ⟨fun l hl => ?_,fun l hl r hr => ?_⟩
 ·simp [mtG] at hl
  rcases hl with rfl | rfl <;> rfl
 ·have h1:nd ((1:Rat)).num≤30∧nd (((1:Rat)).den:Int)≤30:=by
   rw [show ((1:Rat)).num=1 from rfl,show (((1:Rat)).den:Int)=1 from rfl,nd_1]; omega
  have h0:nd ((0:Rat)).num≤30∧nd (((0:Rat)).den:Int)≤30:=by
   rw [show ((0:Rat)).num=0 from rfl,show (((0:Rat)).den:Int)=1 from rfl,nd_1,nd_0]; omega
  have h4:nd ((1/4:Rat)).num≤30∧nd (((1/4:Rat)).den:Int)≤30:=by
   rw [four_parts.1,four_parts.2,nd_1,show nd 4=1 from Lib.nDigits_small (u:=4) (by omega)]; omega
  simp only [mtG,List.mem_cons,List.not_mem_nil,or_false] at hl
  rcases hl with rfl | rfl
  ·simp only [List.mem_cons,List.not_mem_nil,or_false] at hr
   rcases hr with rfl | rfl | rfl
   ·exact h1
   ·exact h0
   ·exact h0
  ·simp only [List.mem_cons,List.not_mem_nil,or_false] at hr
   rcases hr with rfl | rfl | rfl
   ·exact h1
   ·exact h0
   ·exact h4
theorem gn_off {T:TypeId} {B:Nat} {w w':World} {b:Nat} {v:Value} {G:List (List Rat)} (h:GnR w v G) (hG : ∀ r∈G,0<r.length) (ho:OwnV T B w b 4 [.slice none 0 0,.slice none 0 0,.slice none 0 0,.slice none 0 0]) (hg:w.grownBy w' (some b)):GnR w' v G:=by
 obtain ⟨sa,gb,go,cap,vs,e,hc,hl,hS,hr⟩:=h
 refine ⟨sa,gb,go,cap,vs,e,hc,hl,⟨hS.addr,fun i x hx => ?_⟩,fun i a b' => ?_⟩
 ·have h0:=hS.cell i x hx
  have hne:gb≠b:=fun hb=>by
   subst hb
   have h2:=nil4 ho h0
   obtain ⟨hi,hx⟩:=List.getElem?_eq_some_iff.1 hx
   have hi2:i<G.length:=by omega
   obtain ⟨_,_,_,_,e2,_⟩:=hr i hi2 hi
   rw [hx,h2] at e2
   injection e2 with _ e3 _
   have:=hG _ (List.getElem_mem hi2)
   omega
  exact grown_frozen_cell hg hne h0
 ·obtain ⟨xa,xb,xo,xc,ex,q1,q2,q3⟩:=hr i a b'
  refine ⟨xa,xb,xo,xc,ex,q1,q2,fun t ht => ?_⟩
  obtain ⟨k0,k1⟩:=q3 t ht
  have hne:xb≠b:=fun hb=>by
   subst hb
   have h2:=nil4 ho k0
   cases h2
  exact ⟨grown_frozen_cell hg hne k0,grown_frozen_cell hg hne k1⟩
theorem mtT {T:TypeId} {B:Nat} {w w':World} {b b0 b1 b2 b3:Nat} (h0:RowR w (.slice (some ⟨b0,0,none⟩) 3 3) [2,3,5]) (h1:MatR w (.slice (some ⟨b1,0,none⟩) 1 1) [[4,-4,1]]) (h2:MatR w (.slice (some ⟨b2,0,none⟩) 2 2) [[1,0,-4],[0,1,4]]) (h3:GnR w (.slice (some ⟨b3,0,none⟩) 2 2) mtG) (ho:OwnV T B w b 4 [.slice none 0 0,.slice none 0 0,.slice none 0 0,.slice none 0 0]) (hg:w.grownBy w' (some b)) :
  TuR w' (.agg #[.slice (some ⟨b0,0,none⟩) 3 3,.slice (some ⟨b1,0,none⟩) 1 1,.slice (some ⟨b2,0,none⟩) 2 2,.slice (some ⟨b3,0,none⟩) 2 2]) mtP mtC mtM mtG :=
 ⟨_,_,_,_,_,_,_,_,_,_,_,rfl,⟨⟨mt_ok,row_off h0 ho hg,mat_off h1 (by decide) ho hg,mat_off h2 (by decide) ho hg⟩,gn_off h3 (by decide) ho hg,rfl,mtG_ok.1,mtG_ok.2⟩⟩
set_option maxHeartbeats 8000000 in
theorem meantone24_any {w:World} (hL:Laid w):Calls Tryz.prog 79 #[] w fun e w' => ∃ t,e = .returned t∧TuR w' t mtP mtC mtM mtG∧Ext w w':=by
 have hw0:=Lib.hid (fun W (hW:Ext w W)=>whole24_any (n:=0) (by omega) (hL.ext hW))
 have hw1:=Lib.hid (fun W (hW:Ext w W)=>whole24_any (n:=1) (by omega) (hL.ext hW))
 have hp:=Lib.hid (fun W (hW:Ext w W)=>part24_any (n:=1) (d:=4) (by omega) (by omega) (by omega) (hL.ext hW))
 rw [RV_zero] at hw0
 rw [RV_one] at hw1
 rw [RV_four] at hp
 have hX:=(Ext.refl w).alloc (.cells #[.slice none 0 0,.slice none 0 0,.slice none 0 0,.slice none 0 0] 67)
 have HO:=Lib.hid (own4 w 67 (.slice none 0 0) (.slice none 0 0) (.slice none 0 0) (.slice none 0 0))
 clear hL
 go_enter Tryz.func79,Tryz.ntmps79
 go_wp2_with fail
 refine (hw0.out _ hX).mono ?_
 rintro e X1 ⟨rfl,hE1⟩
 have e1:=hX.trans hE1
 go_wp2_with fail
 refine (hw1.out _ e1).mono ?_
 rintro e X2 ⟨rfl,hE2⟩
 have e2:=e1.trans hE2
 have eA:=((Ext.refl X2).alloc (.cells #[.string ⟨#[48]⟩,.string ⟨#[49]⟩] 81)).alloc (.cells #[.string ⟨#[49]⟩,.string ⟨#[49]⟩] 81)
 have c0:((X2.alloc (.cells #[.string ⟨#[48]⟩,.string ⟨#[49]⟩] 81)).alloc (.cells #[.string ⟨#[49]⟩,.string ⟨#[49]⟩] 81)).cell? ⟨X2.heap.size,0,none⟩=some (.string ⟨#[48]⟩):=by go_simp
 have c1:((X2.alloc (.cells #[.string ⟨#[48]⟩,.string ⟨#[49]⟩] 81)).alloc (.cells #[.string ⟨#[49]⟩,.string ⟨#[49]⟩] 81)).cell? ⟨X2.heap.size,1,none⟩=some (.string ⟨#[49]⟩):=by go_simp
 have d0:((X2.alloc (.cells #[.string ⟨#[48]⟩,.string ⟨#[49]⟩] 81)).alloc (.cells #[.string ⟨#[49]⟩,.string ⟨#[49]⟩] 81)).cell? ⟨X2.heap.size+1,0,none⟩=some (.string ⟨#[49]⟩):=by go_simp
 have d1:((X2.alloc (.cells #[.string ⟨#[48]⟩,.string ⟨#[49]⟩] 81)).alloc (.cells #[.string ⟨#[49]⟩,.string ⟨#[49]⟩] 81)).cell? ⟨X2.heap.size+1,1,none⟩=some (.string ⟨#[49]⟩):=by go_simp
 have HO:=Lib.hid (HO.out.ext ((hE1.trans hE2).trans eA))
 have eB:=e2.trans eA
 clear hX hE1 e1 hE2 e2 eA hw0 hw1
 go_wp2_with fail
 generalize ((X2.alloc (.cells #[.string ⟨#[48]⟩,.string ⟨#[49]⟩] 81)).alloc (.cells #[.string ⟨#[49]⟩,.string ⟨#[49]⟩] 81))=X at *
 generalize X2.heap.size=b1 at *
 obtain ⟨b0,hb0⟩ : ∃ b,b=w.heap.size:=⟨_,rfl⟩
 rw [← hb0] at HO ⊢
 have Hb0:=Lib.hid hb0
 clear hb0
 refine wp_region_held_tail (S:=fun W=>Ext X W) 17 (by kernel_rfl) (by simp) ?_
 intro inv
 have d9:Ext X X.drew:=(Ext.refl X).drew
 refine wpAnyLH_inv (D:=fun j=>j+5) (G:=mtP24) (fun i j _ _ h=>by omega) (fun i hi=>by simp; omega) ?_ (by kernel_rfl) (by kernel_rfl) (by simp) mtP24_ext ?_ ?_ 17 _ _ _ (unl_all 17 18 (by omega)) inv d9 (Frm.refl _ _ _) (fun j _ h=>by rw [getD_replicate_false] at h; cases h)
 ·intro i hi o ho e he hb
  rcases (show i=0∨i=1∨i=2∨i=3∨i=4∨i=5∨i=6∨i=7∨i=8∨i=9∨i=10∨i=11∨i=12∨i=13∨i=14∨i=15∨i=16 by omega) with rfl | rfl | rfl | rfl | rfl | rfl | rfl | rfl | rfl | rfl | rfl | rfl | rfl | rfl | rfl | rfl | rfl <;> (obtain rfl:=Option.some.inj ho; simp at he <;> (try rcases he with rfl | rfl | rfl) <;> (try rcases he with rfl | rfl) <;> (try subst he) <;> simp)
 ·intro i hi o ho a W hS hF hd
  rcases (show i=0∨i=1∨i=2∨i=3∨i=4∨i=5∨i=6∨i=7∨i=8∨i=9∨i=10∨i=11∨i=12∨i=13∨i=14∨i=15∨i=16 by omega) with rfl | rfl | rfl | rfl | rfl | rfl | rfl | rfl | rfl | rfl | rfl | rfl | rfl | rfl | rfl | rfl | rfl
  ·obtain rfl:=Option.some.inj ho
   refine wpOp_step rfl (fun K hK => ?_)
   clear hd ho
   go_simp
   refine hK _ _ ⟨hS.alloc _,(Ext.refl W).alloc _,_,rfl,⟨_,rfl⟩,row3N (by go_simp) (by go_simp) (by go_simp)⟩
  ·obtain rfl:=Option.some.inj ho
   refine wpOp_step rfl (fun K hK => ?_)
   clear hd ho
   go_simp
   refine hK _ _ ⟨hS.alloc _,(Ext.refl W).alloc _,_,rfl,⟨_,rfl⟩,row3N (by go_simp) (by go_simp) (by go_simp)⟩
  ·obtain rfl:=Option.some.inj ho
   refine wpOp_step rfl (fun K hK => ?_)
   obtain ⟨⟨bb,hb⟩,hr⟩:=hd ⟨1,.data⟩ (by simp) rfl
   rw [hb] at hr
   have t6:a.tmps[6]?.getD undef = .slice (some ⟨bb,0,none⟩) 3 3:=(ev_tmp a 6).symm.trans hb
   clear hd ho hb
   go_simp
   refine hK _ _ ⟨hS.alloc _,(Ext.refl W).alloc _,_,rfl,⟨_,rfl⟩,mat1N (by go_simp) (hr.ext ((Ext.refl W).alloc _))⟩
  ·obtain rfl:=Option.some.inj ho
   refine wpOp_step rfl (fun K hK => ?_)
   clear hd ho
   go_simp
   refine hK _ _ ⟨hS.alloc _,(Ext.refl W).alloc _,_,rfl,⟨_,rfl⟩,row3N (by go_simp) (by go_simp) (by go_simp)⟩
  ·obtain rfl:=Option.some.inj ho
   refine wpOp_step rfl (fun K hK => ?_)
   clear hd ho
   go_simp
   refine hK _ _ ⟨hS.alloc _,(Ext.refl W).alloc _,_,rfl,⟨_,rfl⟩,row3N (by go_simp) (by go_simp) (by go_simp)⟩
  ·obtain rfl:=Option.some.inj ho
   refine wpOp_step rfl (fun K hK => ?_)
   obtain ⟨⟨ba,hba⟩,hra⟩:=hd ⟨3,.data⟩ (by simp) rfl
   obtain ⟨⟨bb,hbb⟩,hrb⟩:=hd ⟨4,.data⟩ (by simp) rfl
   rw [hba] at hra
   rw [hbb] at hrb
   have t8:a.tmps[8]?.getD undef = .slice (some ⟨ba,0,none⟩) 3 3:=(ev_tmp a 8).symm.trans hba
   have t9:a.tmps[9]?.getD undef = .slice (some ⟨bb,0,none⟩) 3 3:=(ev_tmp a 9).symm.trans hbb
   clear hd ho hba hbb
   go_simp
   refine hK _ _ ⟨hS.alloc _,(Ext.refl W).alloc _,_,rfl,⟨_,rfl⟩,mat2N (by go_simp) (by go_simp) (hra.ext ((Ext.refl W).alloc _)) (hrb.ext ((Ext.refl W).alloc _))⟩
  ·obtain rfl:=Option.some.inj ho
   refine wpOp_step rfl (fun K hK => ?_)
   obtain ⟨⟨ba,hba⟩,hra⟩:=hd ⟨0,.data⟩ (by simp) rfl
   obtain ⟨⟨bb,hbb⟩,hrb⟩:=hd ⟨2,.data⟩ (by simp) rfl
   obtain ⟨⟨bc,hbc⟩,hrc⟩:=hd ⟨5,.data⟩ (by simp) rfl
   rw [hba] at hra
   rw [hbb] at hrb
   rw [hbc] at hrc
   have t5:a.tmps[5]?.getD undef = .slice (some ⟨ba,0,none⟩) 3 3:=(ev_tmp a 5).symm.trans hba
   have t7:a.tmps[7]?.getD undef = .slice (some ⟨bb,0,none⟩) 1 1:=(ev_tmp a 7).symm.trans hbb
   have t10:a.tmps[10]?.getD undef = .slice (some ⟨bc,0,none⟩) 2 2:=(ev_tmp a 10).symm.trans hbc
   clear hd ho hba hbb hbc
   go_simp
   refine hK _ _ ⟨hS,Ext.refl W,_,rfl,_,_,_,rfl,hra,hrb,hrc⟩
  ·obtain rfl:=Option.some.inj ho
   refine wpOp_step rfl (fun K hK => ?_)
   have t2:a.tmps[2]?.getD undef = .pointer (some ⟨b1+1,0,none⟩):=by rw [hF.other 2 (fun j _=>by omega)]; rfl
   have q0:=hS.cell d0
   have q1:=hS.cell d1
   clear hd ho
   go_simp
   refine hK _ _ ⟨hS,Ext.refl W,_,rfl,rfl⟩
  ·obtain rfl:=Option.some.inj ho
   refine wpOp_step rfl (fun K hK => ?_)
   have t1:a.tmps[1]?.getD undef = .pointer (some ⟨b1,0,none⟩):=by rw [hF.other 1 (fun j _=>by omega)]; rfl
   have q0:=hS.cell c0
   have q1:=hS.cell c1
   clear hd ho
   go_simp
   refine hK _ _ ⟨hS,Ext.refl W,_,rfl,rfl⟩
  ·obtain rfl:=Option.some.inj ho
   refine wpOp_step rfl (fun K hK => ?_)
   have t1:a.tmps[1]?.getD undef = .pointer (some ⟨b1,0,none⟩):=by rw [hF.other 1 (fun j _=>by omega)]; rfl
   have q0:=hS.cell c0
   have q1:=hS.cell c1
   clear hd ho
   go_simp
   refine hK _ _ ⟨hS,Ext.refl W,_,rfl,rfl⟩
  ·obtain rfl:=Option.some.inj ho
   refine wpOp_step rfl (fun K hK => ?_)
   have h0:=hd ⟨7,.data⟩ (by simp) rfl
   have h1:=hd ⟨8,.data⟩ (by simp) rfl
   have h2:=hd ⟨9,.data⟩ (by simp) rfl
   have s0:a.tmps[12]?.getD undef = .agg #[.string ⟨#[49]⟩,.string ⟨#[49]⟩]:=(ev_tmp a 12).symm.trans h0
   have s1:a.tmps[13]?.getD undef = .agg #[.string ⟨#[48]⟩,.string ⟨#[49]⟩]:=(ev_tmp a 13).symm.trans h1
   have s2:a.tmps[14]?.getD undef = .agg #[.string ⟨#[48]⟩,.string ⟨#[49]⟩]:=(ev_tmp a 14).symm.trans h2
   clear hd ho h0 h1 h2
   go_simp
   refine hK _ _ ⟨hS.alloc _,(Ext.refl W).alloc _,_,rfl,⟨_,rfl⟩,sz3N (by rw [I_one1.1]; go_simp) (by rw [I_one1.2]; go_simp) (by rw [I_zeroR.1]; go_simp) (by rw [I_zeroR.2]; go_simp) (by rw [I_zeroR.1]; go_simp) (by rw [I_zeroR.2]; go_simp)⟩
  ·obtain rfl:=Option.some.inj ho
   refine wpOp_step rfl (fun K hK => ?_)
   have t2:a.tmps[2]?.getD undef = .pointer (some ⟨b1+1,0,none⟩):=by rw [hF.other 2 (fun j _=>by omega)]; rfl
   have q0:=hS.cell d0
   have q1:=hS.cell d1
   clear hd ho
   go_simp
   refine hK _ _ ⟨hS,Ext.refl W,_,rfl,rfl⟩
  ·obtain rfl:=Option.some.inj ho
   refine wpOp_step rfl (fun K hK => ?_)
   have t1:a.tmps[1]?.getD undef = .pointer (some ⟨b1,0,none⟩):=by rw [hF.other 1 (fun j _=>by omega)]; rfl
   have q0:=hS.cell c0
   have q1:=hS.cell c1
   clear hd ho
   go_simp
   refine hK _ _ ⟨hS,Ext.refl W,_,rfl,rfl⟩
  ·obtain rfl:=Option.some.inj ho
   refine wpOp_step rfl (fun K hK => ?_)
   clear hd ho
   go_simp
   refine (hp.out _ (eB.trans hS)).mono ?_
   rintro e W2 ⟨rfl,hE2⟩
   refine hK _ _ ⟨hS.trans hE2,hE2,_,rfl,rfl⟩
  ·obtain rfl:=Option.some.inj ho
   refine wpOp_step rfl (fun K hK => ?_)
   have h0:=hd ⟨11,.data⟩ (by simp) rfl
   have h1:=hd ⟨12,.data⟩ (by simp) rfl
   have h2:=hd ⟨13,.data⟩ (by simp) rfl
   have s0:a.tmps[16]?.getD undef = .agg #[.string ⟨#[49]⟩,.string ⟨#[49]⟩]:=(ev_tmp a 16).symm.trans h0
   have s1:a.tmps[17]?.getD undef = .agg #[.string ⟨#[48]⟩,.string ⟨#[49]⟩]:=(ev_tmp a 17).symm.trans h1
   have s2:a.tmps[18]?.getD undef = .agg #[.string ⟨#[49]⟩,.string ⟨#[52]⟩]:=(ev_tmp a 18).symm.trans h2
   clear hd ho h0 h1 h2
   go_simp
   refine hK _ _ ⟨hS.alloc _,(Ext.refl W).alloc _,_,rfl,⟨_,rfl⟩,sz3N (by rw [I_one1.1]; go_simp) (by rw [I_one1.2]; go_simp) (by rw [I_zeroR.1]; go_simp) (by rw [I_zeroR.2]; go_simp) (by rw [I_four4.1]; go_simp) (by rw [I_four4.2]; go_simp)⟩
  ·obtain rfl:=Option.some.inj ho
   refine wpOp_step rfl (fun K hK => ?_)
   obtain ⟨⟨ba,hba⟩,hra⟩:=hd ⟨10,.data⟩ (by simp) rfl
   obtain ⟨⟨bb,hbb⟩,hrb⟩:=hd ⟨14,.data⟩ (by simp) rfl
   rw [hba] at hra
   rw [hbb] at hrb
   have t15:a.tmps[15]?.getD undef = .slice (some ⟨ba,0,none⟩) 3 3:=(ev_tmp a 15).symm.trans hba
   have t19:a.tmps[19]?.getD undef = .slice (some ⟨bb,0,none⟩) 3 3:=(ev_tmp a 19).symm.trans hbb
   clear hd ho hba hbb
   go_simp
   refine hK _ _ ⟨hS.alloc _,(Ext.refl W).alloc _,_,rfl,⟨_,rfl⟩,gn2N (by go_simp) (by go_simp) (hra.ext ((Ext.refl W).alloc _)) (hrb.ext ((Ext.refl W).alloc _))⟩
  ·obtain rfl:=Option.some.inj ho
   refine wpOp_step rfl (fun K hK => ?_)
   obtain ⟨ba,bb,bc,hb,hra,hrb,hrc⟩:=hd ⟨6,.data⟩ (by simp) rfl
   obtain ⟨⟨bd,hbd⟩,hrd⟩:=hd ⟨15,.data⟩ (by simp) rfl
   rw [hbd] at hrd
   have t11:a.tmps[11]?.getD undef = .agg #[.slice (some ⟨ba,0,none⟩) 3 3,.slice (some ⟨bb,0,none⟩) 1 1,.slice (some ⟨bc,0,none⟩) 2 2]:=(ev_tmp a 11).symm.trans hb
   have t20:a.tmps[20]?.getD undef = .slice (some ⟨bd,0,none⟩) 2 2:=(ev_tmp a 20).symm.trans hbd
   clear hd ho hb hbd
   go_simp
   refine hK _ _ ⟨hS,Ext.refl W,_,rfl,_,_,_,_,rfl,hra,hrb,hrc,hrd⟩
 ·intro listed a W inv hall hS hF hGa
  obtain ⟨ba,bb,bc,bd,hv,hra,hrb,hrc,hrd⟩:=hGa 16 (by omega)
  have t0:a.tmps[0]?.getD undef = .pointer (some ⟨b0,0,none⟩):=by rw [hF.other 0 (fun j _=>by omega)]; rfl
  have t21:a.tmps[21]?.getD undef = .agg #[.slice (some ⟨ba,0,none⟩) 3 3,.slice (some ⟨bb,0,none⟩) 1 1,.slice (some ⟨bc,0,none⟩) 2 2,.slice (some ⟨bd,0,none⟩) 2 2]:=(ev_tmp a 21).symm.trans hv
  have hdf:a.defers=[]:=hF.defers
  obtain ⟨tm,df⟩:=a
  simp only at t0 t21 hdf
  subst hdf
  have hH:=HO.out.ext hS
  refine ⟨by rw [listed_eq inv hall]; kernel_rfl,?_⟩
  clear hGa hF hall inv hv
  have hBW:=eB.trans hS
  obtain ⟨Hr6,He6,Hg6⟩:=set4 hBW (by have:=Hb0.out; omega) hH (.slice (some ⟨ba,0,none⟩) 3 3) (.slice (some ⟨bb,0,none⟩) 1 1) (.slice (some ⟨bc,0,none⟩) 2 2) (.slice (some ⟨bd,0,none⟩) 2 2)
  have r0:=Hr6.cell (j:=0) (by simp)
  have r1:=Hr6.cell (j:=1) (by simp)
  have r2:=Hr6.cell (j:=2) (by simp)
  have r3:=Hr6.cell (j:=3) (by simp)
  simp only [List.getElem_cons_zero,List.getElem_cons_succ] at r0 r1 r2 r3
  have f0:=hH.frozen 0
  have f1:=hH.frozen 1
  have f2:=hH.frozen 2
  have f3:=hH.frozen 3
  have m0:=hH.cell (j:=0) (by simp)
  have m1:=hH.cell (j:=1) (by simp)
  have m2:=hH.cell (j:=2) (by simp)
  have m3:=hH.cell (j:=3) (by simp)
  simp only [List.getElem_cons_zero,List.getElem_cons_succ] at m0 m1 m2 m3
  have Hres:=Lib.hid (And.intro (mtT hra hrb hrc hrd hH Hg6) He6)
  clear hra hrb hrc hrd Hg6 He6 Hr6 hBW hH HO
  refine wpList_plain rfl (fun K hK => ?_)
  go_simp
  refine hK _ _ ?_
  clear hK K
  go_wp2_with fail
  refine bodyPost_ret (v := .agg #[.slice (some ⟨ba,0,none⟩) 3 3,.slice (some ⟨bb,0,none⟩) 1 1,.slice (some ⟨bc,0,none⟩) 2 2,.slice (some ⟨bd,0,none⟩) 2 2]) (by simp [results,Tryz.results79,go_sem,t0,r0,r1,r2,r3]) rfl ⟨_,rfl,Hres.out.1,Hres.out.2⟩
theorem rcln_any {w:World} {vx:Value} {x:List Int} (hx:RowR w vx x) (hn:0<x.length) (hl:x.length≤1000000) :
  Calls Tryz.prog 150 #[vx] w fun e w' => ∃ g cap,e = .returned (slv g x.length cap)∧OwnV 3 w.heap.size w' g cap (is x)∧Ext w w':=by
 obtain ⟨sa,gb,go,cp,rfl,hcp,hS⟩:=hx
 obtain rfl:=hS.addr (by rw [is_length]; exact hn)
 obtain ⟨s0,hs,hy0,hy1,hy2⟩:=info_parts Tryz.infoInt
 have HNews:=Lib.hid (show ∀ (j:Nat) (u:Value),(is x)[j]? = some u→(w.alloc (.cells #[] 3)).cell? ((⟨gb,go,none⟩:Addr).add j)=some u from fun j u hj=>by
  have h2:=((Ext.refl w).alloc (.cells #[] 3)).cell (hS.cell j u hj)
  simpa [Addr.add_lit] using h2)
 have HOne:=Lib.hid (show ∀ u∈is x,u.oneCell'=true from fun u hu=>by
  obtain ⟨y,_,rfl⟩:=List.mem_map.1 hu
  rfl)
 have hO:OwnV 3 w.heap.size (w.alloc (.cells #[] 3)) w.heap.size 0 []:=OwnV.of (Nat.le_refl _) Array.getElem?_push_size (Nat.le_refl _) (Nat.zero_le _) rfl rfl
 have HO:=Lib.hid hO
 have hE:=(Ext.refl w).alloc (.cells #[] 3)
 have knil:=fun (w:World) (a:Option Addr) (n c:Nat)=>Lib.run_eql_slice_nil (P:=Tryz.prog) w 30 3 a n c 0 0 Tryz.underlying30
 clear hO hS
 go_enter Tryz.func150,Tryz.ntmps150
 go_wp2_with (at_builtin; refine wpList_append_lies _ rfl _ _ 30 rfl w.heap.size 3 s0 _ 1 8 Tryz.underlying30 hs hy0 hy1 hy2 rfl (by omega) (slv w.heap.size 0 0) 0 [] rfl HO.out ⟨gb,go,none⟩ x.length cp (is x) rfl (by rw [is_length]; omega) HNews.out HOne.out hn (by unfold maxLen; omega) (by omega) (by simp) (w.heap.size+1) (by simp) ?_; intro gg cap6 w6 hown6 hgrow6 hat6 hlt6)
 have hE6:Ext w w6:=Ext.mk' (Below.grown hE hgrow6 hE.size (fun q hq=>(World.ownsRow.lt HO.out q hq).1))
 have HR:=Lib.hid (show OwnV 3 w.heap.size w6 gg cap6 (is x) by
  unfold OwnV; rw [is_length]; simpa using hown6)
 clear hown6 hgrow6 hat6 hlt6
 go_wp2_with fail
 go_ret
 exact ⟨gg,cap6,by simp,HR.out,hE6⟩
theorem pcln_any {w:World} {vx:Value} {x:List Int} (hx:RowR w vx x) (hn:0<x.length) (hl:x.length≤1000000) :
  Calls Tryz.prog 151 #[vx] w fun e w' => ∃ g cap,e = .returned (slv g x.length cap)∧OwnV 3 w.heap.size w' g cap (is x)∧Ext w w':=by
 obtain ⟨sa,gb,go,cp,rfl,hcp,hS⟩:=hx
 obtain rfl:=hS.addr (by rw [is_length]; exact hn)
 obtain ⟨s0,hs,hy0,hy1,hy2⟩:=info_parts Tryz.infoInt
 have HNews:=Lib.hid (show ∀ (j:Nat) (u:Value),(is x)[j]? = some u→(w.alloc (.cells #[] 3)).cell? ((⟨gb,go,none⟩:Addr).add j)=some u from fun j u hj=>by
  have h2:=((Ext.refl w).alloc (.cells #[] 3)).cell (hS.cell j u hj)
  simpa [Addr.add_lit] using h2)
 have HOne:=Lib.hid (show ∀ u∈is x,u.oneCell'=true from fun u hu=>by
  obtain ⟨y,_,rfl⟩:=List.mem_map.1 hu
  rfl)
 have hO:OwnV 3 w.heap.size (w.alloc (.cells #[] 3)) w.heap.size 0 []:=OwnV.of (Nat.le_refl _) Array.getElem?_push_size (Nat.le_refl _) (Nat.zero_le _) rfl rfl
 have HO:=Lib.hid hO
 have hE:=(Ext.refl w).alloc (.cells #[] 3)
 have knil:=fun (w:World) (a:Option Addr) (n c:Nat)=>Lib.run_eql_slice_nil (P:=Tryz.prog) w 31 3 a n c 0 0 Tryz.underlying31
 clear hO hS
 go_enter Tryz.func151,Tryz.ntmps151
 go_wp2_with (at_builtin; refine wpList_append_lies _ rfl _ _ 31 rfl w.heap.size 3 s0 _ 1 8 Tryz.underlying31 hs hy0 hy1 hy2 rfl (by omega) (slv w.heap.size 0 0) 0 [] rfl HO.out ⟨gb,go,none⟩ x.length cp (is x) rfl (by rw [is_length]; omega) HNews.out HOne.out hn (by unfold maxLen; omega) (by omega) (by simp) (w.heap.size+1) (by simp) ?_; intro gg cap6 w6 hown6 hgrow6 hat6 hlt6)
 have hE6:Ext w w6:=Ext.mk' (Below.grown hE hgrow6 hE.size (fun q hq=>(World.ownsRow.lt HO.out q hq).1))
 have HR:=Lib.hid (show OwnV 3 w.heap.size w6 gg cap6 (is x) by
  unfold OwnV; rw [is_length]; simpa using hown6)
 clear hown6 hgrow6 hat6 hlt6
 go_wp2_with fail
 go_ret
 exact ⟨gg,cap6,by simp,HR.out,hE6⟩
theorem own_rowV {B:Nat} {w:World} {g cap:Nat} {x:List Int} (h:OwnV 3 B w g cap (is x)):RowV B w (slv g x.length cap) x:=by
 have:=h
 unfold OwnV at this
 rw [is_length] at this
 exact this
set_option maxHeartbeats 2000000 in
theorem mcopied_any {w:World} {v:Value} {M:Mx} (hM:MatR w v M) (h0 : ∀ r∈M,0<r.length∧r.length≤1000000) (hl:M.length≤1000000) :
  Calls Tryz.prog 149 #[v] w fun e w' => ∃ u,e = .returned u∧MatO w.heap.size w' u M∧Ext w w':=by
 obtain ⟨sa,gb,go,cap,vs,rfl,hcap,hvl,hS,hr⟩:=hM
 have HS:=Lib.hid hS
 have HR:=Lib.hid hr
 have HV:=Lib.hid hvl
 have H0:=Lib.hid h0
 obtain ⟨m,hm⟩ : ∃ m,m=M.length:=⟨_,rfl⟩
 rw [← hm] at hcap hl ⊢
 have Hm:=Lib.hid hm
 clear hS hr hvl h0 hm
 go_enter Tryz.func149,Tryz.ntmps149
 go_wp2_with fail
 go_loopw [3,8] (fun u iv wr => ∃ i:Nat,i≤m∧iv = .int .i64 i∧Hid (MatO w.heap.size wr u (M.take i))∧Ext w wr) (fun _ iv _=>m-(intOf iv).toNat)
 case atStart=>exact ⟨0,by omega,by go_num,Lib.hid (MatO.nil _ _),Ext.refl _⟩
 case round =>
  obtain ⟨i,hi,rfl,HO,hE⟩:=hrel
  generalize wr=X at *
  by_cases hlt:i<m
  ·have hii:(i:Int)<(m:Int):=by omega
   have hil:i<M.length:=by rw [← Hm.out]; exact hlt
   have hiv:i<vs.length:=by rw [HV.out]; exact hil
   obtain rfl:=HS.out.addr (by omega)
   have c0:=hE.cell (HS.out.cell i _ (List.getElem?_eq_getElem hiv))
   have hrow:=(HR.out i hil hiv).ext hE
   obtain ⟨ra,rb,ro,rc,ex,q1,q2⟩:=hrow
   have hrow:RowR X (.slice ra M[i].length rc) M[i]:=⟨ra,rb,ro,rc,rfl,q1,q2⟩
   rw [ex] at c0
   have hln:=H0.out _ (List.getElem_mem hil)
   have hcl:=Lib.hid (fun W (hW:Ext X W)=>rcln_any (hrow.ext hW) hln.1 hln.2)
   have Htk:=Lib.hid (show M.take (i+1)=M.take i++[M[i]] by rw [List.take_succ_eq_append_getElem hil])
   have Htl:=Lib.hid (show (M.take i).length=i by rw [List.length_take]; omega)
   have HXs:=Lib.hid hE.size
   clear ex q1 q2 hrow hln hiv
   generalize M[i]=r at *
   obtain ⟨n,hn⟩ : ∃ n,n=r.length:=⟨_,rfl⟩
   rw [← hn] at c0 hcl
   have Hn:=Lib.hid hn
   clear hn hlt hil
   go_wp2_with fail
   refine (hcl.out _ (Ext.refl _)).mono ?_
   rintro e W ⟨g,cc,rfl,hO,hE2⟩
   have HG:=Lib.hid (own_rowV hO)
   have e2:=hE.trans hE2
   have HO2:=Lib.hid (HO.out.ext (hE2.alloc (.cells #[slv g n cc] 30)))
   have eA:=e2.alloc (.cells #[slv g n cc] 30)
   have HG2:=Lib.hid (show RowV w.heap.size (W.alloc (.cells #[slv g n cc] 30)) (slv g n cc) r by
    have:=(HG.out.mono HXs.out).ext ((Ext.refl W).alloc (.cells #[slv g n cc] 30))
    rwa [← Hn.out] at this)
   have hc9:(W.alloc (.cells #[slv g n cc] 30)).cell? ⟨W.heap.size,0,none⟩=some (slv g n cc):=by go_simp
   clear hO hE2 HO HG e2 hcl
   go_wp2_with (at_builtin; (refine app_mat rfl _ _ rfl rfl HO2.out (b:=W.heap.size) (r:=r) rfl hc9 HG2.out (by rw [Htl.out]; omega) eA.size ?_; intro g9 cap9 w9 hO9 hB9 _; rw [← Htk.out,Htl.out] at hO9; have HO9:=Lib.hid hO9; have e9:Ext w w9:=Below.trans eA hB9; rw [Htl.out]; clear hO9 hB9))
   go_wp2_with fail
   go_roundw
   case rel=>exact ⟨i+1,by omega,by go_num,HO9,e9⟩
   case measure=>simp [intOf] <;> omega
  ·obtain rfl:i=m:=by omega
   have hii : ¬ (i:Int)<(i:Int):=by omega
   have HF:=Lib.hid (show MatO w.heap.size X _ M by
    have:=HO.out
    rwa [Hm.out,List.take_length] at this)
   clear HO
   go_wp2_with fail
   go_ret
   exact ⟨_,rfl,HF.out,hE⟩
end Go.Proofs.YtjnpakablgommaaGreatDoor
