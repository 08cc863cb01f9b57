/- Part 10 of the proof of the claim: contracts of the functions that it reaches, and plain laws; no condition. -/
import Derived.Test.YtjnpakablgommaaGreatDoorV09
set_option maxRecDepth 100000
namespace Go.Proofs.YtjnpakablgommaaGreatDoor
open Go.RowKit Go.Sort
theorem nd_le {a b:Int} (h:a.natAbs≤b.natAbs):nd a≤nd b:=nDigits_mono h
theorem qg_pos {n d:Int} (h:d≠0):0<qg n d:=Nat.gcd_pos_of_pos_right _ (by omega)
theorem qg_le {n d:Int} (h:d≠0):qg n d≤d.natAbs:=Nat.gcd_le_right _ (by omega)
set_option maxHeartbeats 1000000 in
theorem flowest_any {n d:Int} (hn:nd n<LIM) (hd:nd d<LIM) (h0:d≠0) {w:World} (hL:Laid w) :
  Calls Tryz.prog 163 #[I n,I d] w fun e w'=>e = .returned (.agg #[I (qn n d),I (qd n d)])∧Ext w w':=by
 have HL:=Lib.hid hL
 obtain ⟨n',hn'⟩ : ∃ n',n'=if d<0 then -n else n:=⟨_,rfl⟩
 obtain ⟨d',hd'⟩ : ∃ d',d'=(d.natAbs:Int):=⟨_,rfl⟩
 obtain ⟨g,hg⟩ : ∃ g,g=qg n d:=⟨_,rfl⟩
 have Hg:=Lib.hid hg
 have hg0:0<g:=by rw [hg]; exact qg_pos h0
 have hgl:g≤d.natAbs:=by rw [hg]; exact qg_le h0
 have e1:qn n d=n'/(g:Int):=by unfold qn; rw [← hg, ← hn']
 have e2:qd n d=d'/(g:Int):=by unfold qd; rw [← hg, ← hd']
 have hnn:nd n'<LIM:=by rw [hn']; split; (rw [nd_neg]; exact hn); exact hn
 have hdd:nd d'<LIM:=by rw [hd']; show Lib.nDigits _<_; rw [Int.natAbs_natCast]; exact hd
 have hgn:nd (g:Int)<LIM:=Nat.lt_of_le_of_lt (nd_le (by rw [Int.natAbs_natCast]; exact hgl)) hd
 have hgc:Nat.gcd n'.natAbs d'.natAbs=g:=by
  rw [hg,hn',hd',Int.natAbs_natCast]; unfold qg
  split
  ·rw [Int.natAbs_neg]
  ·rfl
 have hs:=Lib.hid (Sign_any d)
 have hN1:=Lib.hid (Neg_any (z:=n) (Nat.le_of_lt hn))
 have hN2:=Lib.hid (Neg_any (z:=d) (Nat.le_of_lt hd))
 have hG:=Lib.hid (fun w hL=>wGcd_any (a:=n') (b:=d') (w:=w) hnn hdd hL)
 rw [hgc] at hG
 have hD1:=Lib.hid (fun w hL=>DivMod_any (a:=n') (b:=(g:Int)) (w:=w) hnn hgn (by omega) hL)
 have hD2:=Lib.hid (fun w hL=>DivMod_any (a:=d') (b:=(g:Int)) (w:=w) hdd hgn (by omega) hL)
 rw [Int.fdiv_eq_ediv_of_nonneg _ (by omega), ← e1] at hD1
 rw [Int.fdiv_eq_ediv_of_nonneg _ (by omega), ← e2] at hD2
 have h1:=itoa_eq_1 (g:Int)
 have E1:=Lib.hid (show g=1→qn n d=n'∧qd n d=d' from fun h=>by rw [e1,e2,h]; exact ⟨Int.ediv_one _,Int.ediv_one _⟩)
 clear e1 e2
 generalize qn n d=x at *
 generalize qd n d=y at *
 generalize n'.fmod g=r1 at *
 generalize d'.fmod g=r2 at *
 have HO:=Lib.hid (two_alloc w 81 (.string ⟨#[]⟩) (.string ⟨#[]⟩))
 have hX:Ext w (w.alloc (.cells #[.string ⟨#[]⟩,.string ⟨#[]⟩] 81)):=(Ext.refl w).alloc _
 have Hd':=Lib.hid hd'
 have Hn':=Lib.hid hn'
 clear hg hgl hL hn hd hnn hdd hgn hgc hn' hd' hg0
 by_cases hneg:d<0
 ·have hsg:d.sign = -1:=Int.sign_eq_neg_one_of_neg hneg
  have en : -n=n':=by rw [Hn'.out,if_pos hneg]
  have ed : -d=d':=by rw [Hd'.out]; omega
  rw [hsg] at hs
  rw [en] at hN1
  rw [ed] at hN2
  clear hsg hneg en ed h0
  by_cases hg1:g=1
  ·rw [decide_eq_true (by omega)] at h1
   obtain ⟨rfl,rfl⟩:=E1.out hg1
   clear hg1 E1
   go_enter Tryz.func163,Tryz.ntmps163
   go_wp2_with fail
   refine (hs.out _).mono ?_
   rintro e w1 ⟨rfl,hE1⟩
   replace HO:=Lib.hid (HO.out.ext hE1)
   replace hX:=hX.trans hE1
   clear hE1
   go_wp2_with fail
   refine (hN1.out _).mono ?_
   rintro e w1 ⟨rfl,hE1⟩
   replace HO:=Lib.hid (HO.out.ext hE1)
   replace hX:=hX.trans hE1
   clear hE1
   go_wp2_with fail
   refine (hN2.out _).mono ?_
   rintro e w1 ⟨rfl,hE1⟩
   replace HO:=Lib.hid (HO.out.ext hE1)
   replace hX:=hX.trans hE1
   clear hE1
   go_wp2_with fail
   refine (hG.out _ (HL.out.ext hX)).mono ?_
   rintro e w1 ⟨rfl,hE1⟩
   replace HO:=Lib.hid (HO.out.ext hE1)
   replace hX:=hX.trans hE1
   clear hE1
   obtain ⟨q0,q1,f0,f1,r0,r1,hF⟩:=two_end hX (Nat.le_refl _) HO.out (I x) (I y)
   have Hres:=Lib.hid (show RetF w (.agg #[I x,I y]) (.returned (.agg #[I x,I y])) _ from ⟨rfl,hF.out⟩)
   go_wp2_with fail
   refine bodyPost_ret (v := .agg #[I x,I y]) (by simp [results,Tryz.results163,go_sem,r0,r1]) rfl Hres.out
  ·rw [decide_eq_false (by omega)] at h1
   clear hg1 E1
   go_enter Tryz.func163,Tryz.ntmps163
   go_wp2_with fail
   refine (hs.out _).mono ?_
   rintro e w1 ⟨rfl,hE1⟩
   replace HO:=Lib.hid (HO.out.ext hE1)
   replace hX:=hX.trans hE1
   clear hE1
   go_wp2_with fail
   refine (hN1.out _).mono ?_
   rintro e w1 ⟨rfl,hE1⟩
   replace HO:=Lib.hid (HO.out.ext hE1)
   replace hX:=hX.trans hE1
   clear hE1
   go_wp2_with fail
   refine (hN2.out _).mono ?_
   rintro e w1 ⟨rfl,hE1⟩
   replace HO:=Lib.hid (HO.out.ext hE1)
   replace hX:=hX.trans hE1
   clear hE1
   go_wp2_with fail
   refine (hG.out _ (HL.out.ext hX)).mono ?_
   rintro e w1 ⟨rfl,hE1⟩
   replace HO:=Lib.hid (HO.out.ext hE1)
   replace hX:=hX.trans hE1
   clear hE1
   go_wp2_with fail
   refine (hD1.out _ (HL.out.ext hX)).mono ?_
   rintro e w1 ⟨rfl,hE1⟩
   replace HO:=Lib.hid (HO.out.ext hE1)
   replace hX:=hX.trans hE1
   clear hE1
   go_wp2_with fail
   refine (hD2.out _ (HL.out.ext hX)).mono ?_
   rintro e w1 ⟨rfl,hE1⟩
   replace HO:=Lib.hid (HO.out.ext hE1)
   replace hX:=hX.trans hE1
   clear hE1
   obtain ⟨q0,q1,f0,f1,r0,r1,hF⟩:=two_end hX (Nat.le_refl _) HO.out (I x) (I y)
   have Hres:=Lib.hid (show RetF w (.agg #[I x,I y]) (.returned (.agg #[I x,I y])) _ from ⟨rfl,hF.out⟩)
   go_wp2_with fail
   refine bodyPost_ret (v := .agg #[I x,I y]) (by simp [results,Tryz.results163,go_sem,r0,r1]) rfl Hres.out
 ·have hsg:d.sign=1:=Int.sign_eq_one_of_pos (by omega)
  have en:n=n':=by rw [Hn'.out,if_neg hneg]
  have ed:d=d':=by rw [Hd'.out]; omega
  rw [hsg] at hs
  clear Hn' Hd' h0
  subst en
  subst ed
  clear hsg hneg hN1 hN2
  by_cases hg1:g=1
  ·rw [decide_eq_true (by omega)] at h1
   obtain ⟨rfl,rfl⟩:=E1.out hg1
   clear hg1 E1
   go_enter Tryz.func163,Tryz.ntmps163
   go_wp2_with fail
   refine (hs.out _).mono ?_
   rintro e w1 ⟨rfl,hE1⟩
   replace HO:=Lib.hid (HO.out.ext hE1)
   replace hX:=hX.trans hE1
   clear hE1
   go_wp2_with fail
   refine (hG.out _ (HL.out.ext hX)).mono ?_
   rintro e w1 ⟨rfl,hE1⟩
   replace HO:=Lib.hid (HO.out.ext hE1)
   replace hX:=hX.trans hE1
   clear hE1
   obtain ⟨q0,q1,f0,f1,r0,r1,hF⟩:=two_end hX (Nat.le_refl _) HO.out (I x) (I y)
   have Hres:=Lib.hid (show RetF w (.agg #[I x,I y]) (.returned (.agg #[I x,I y])) _ from ⟨rfl,hF.out⟩)
   go_wp2_with fail
   refine bodyPost_ret (v := .agg #[I x,I y]) (by simp [results,Tryz.results163,go_sem,r0,r1]) rfl Hres.out
  ·rw [decide_eq_false (by omega)] at h1
   clear hg1 E1
   go_enter Tryz.func163,Tryz.ntmps163
   go_wp2_with fail
   refine (hs.out _).mono ?_
   rintro e w1 ⟨rfl,hE1⟩
   replace HO:=Lib.hid (HO.out.ext hE1)
   replace hX:=hX.trans hE1
   clear hE1
   go_wp2_with fail
   refine (hG.out _ (HL.out.ext hX)).mono ?_
   rintro e w1 ⟨rfl,hE1⟩
   replace HO:=Lib.hid (HO.out.ext hE1)
   replace hX:=hX.trans hE1
   clear hE1
   go_wp2_with fail
   refine (hD1.out _ (HL.out.ext hX)).mono ?_
   rintro e w1 ⟨rfl,hE1⟩
   replace HO:=Lib.hid (HO.out.ext hE1)
   replace hX:=hX.trans hE1
   clear hE1
   go_wp2_with fail
   refine (hD2.out _ (HL.out.ext hX)).mono ?_
   rintro e w1 ⟨rfl,hE1⟩
   replace HO:=Lib.hid (HO.out.ext hE1)
   replace hX:=hX.trans hE1
   clear hE1
   obtain ⟨q0,q1,f0,f1,r0,r1,hF⟩:=two_end hX (Nat.le_refl _) HO.out (I x) (I y)
   have Hres:=Lib.hid (show RetF w (.agg #[I x,I y]) (.returned (.agg #[I x,I y])) _ from ⟨rfl,hF.out⟩)
   go_wp2_with fail
   refine bodyPost_ret (v := .agg #[I x,I y]) (by simp [results,Tryz.results163,go_sem,r0,r1]) rfl Hres.out
theorem fNew_any {n d:Int} (hn:nd n<LIM) (hd:nd d<LIM) (h0:d≠0) {w:World} (hL:Laid w) :
  Calls Tryz.prog 120 #[I n,I d] w fun e w'=>e = .returned (.tuple #[.agg #[I (qn n d),I (qd n d)],.int .i64 0])∧Ext w w':=by
 have HL:=Lib.hid hL
 have hs:=Lib.hid (Sign_any d)
 have hl:=Lib.hid (fun w hL=>flowest_any (w:=w) hn hd h0 hL)
 have hsg:(d.sign==0)=false:=beq_eq_false_iff_ne.2 (fun h=>h0 (Int.sign_eq_zero_iff_zero.1 h))
 generalize d.sign=sg at *
 generalize qn n d=x at *
 generalize qd n d=y at *
 have HO:=Lib.hid (two_alloc w 81 (.string ⟨#[]⟩) (.string ⟨#[]⟩))
 have hX:Ext w (w.alloc (.cells #[.string ⟨#[]⟩,.string ⟨#[]⟩] 81)):=(Ext.refl w).alloc _
 clear hn hd h0 hL
 go_enter Tryz.func120,Tryz.ntmps120
 go_wp2_with fail
 refine (hs.out _).mono ?_
 rintro e w1 ⟨rfl,hE1⟩
 replace HO:=Lib.hid (HO.out.ext hE1)
 replace hX:=hX.trans hE1
 go_wp2_with fail
 refine (hl.out _ (HL.out.ext hX)).mono ?_
 rintro e w2 ⟨rfl,hE2⟩
 replace HO:=Lib.hid (HO.out.ext hE2)
 replace hX:=hX.trans hE2
 obtain ⟨q0,q1,f0,f1,r0,r1,hF⟩:=two_end hX (Nat.le_refl _) HO.out (I x) (I y)
 have Hres:=Lib.hid (show RetF w (.tuple #[.agg #[I x,I y],.int .i64 0]) (.returned (.tuple #[.agg #[I x,I y],.int .i64 0])) _ from ⟨rfl,hF.out⟩)
 go_wp2_with fail
 refine bodyPost_ret (v := .tuple #[.agg #[I x,I y],.int .i64 0]) (by simp [results,Tryz.results120,go_sem,r0,r1]) rfl Hres.out
theorem fOf_any {n d:Int} (hn : -9223372036854775808≤n∧n≤9223372036854775807) (hd : -9223372036854775808≤d∧d≤9223372036854775807) (h0:d≠0) {w:World} (hL:Laid w) :
  Calls Tryz.prog 110 #[.int .i64 n,.int .i64 d] w fun e w'=>e = .returned (.tuple #[.agg #[I (qn n d),I (qd n d)],.int .i64 0])∧Ext w w':=by
 have HL:=Lib.hid hL
 have h1:=Lib.hid (fun w hL=>wholeOf_any (w:=w) hn.1 hn.2 hL)
 have h2:=Lib.hid (fun w hL=>wholeOf_any (w:=w) hd.1 hd.2 hL)
 have hl:=Lib.hid (fun w hL=>fNew_any (n:=n) (d:=d) (w:=w) (by have:=nDigits_le (u:=n.natAbs) (k:=20) (by omega) (by omega); show Lib.nDigits _<LIM; unfold LIM; omega) (by have:=nDigits_le (u:=d.natAbs) (k:=20) (by omega) (by omega); show Lib.nDigits _<LIM; unfold LIM; omega) h0 hL)
 generalize qn n d=x at *
 generalize qd n d=y at *
 have HO:=Lib.hid (two_alloc w 81 (.string ⟨#[]⟩) (.string ⟨#[]⟩))
 have hX:Ext w (w.alloc (.cells #[.string ⟨#[]⟩,.string ⟨#[]⟩] 81)):=(Ext.refl w).alloc _
 clear hn hd h0 hL
 go_enter Tryz.func110,Tryz.ntmps110
 go_wp2_with fail
 refine (h1.out _ (HL.out.ext hX)).mono ?_
 rintro e w1 ⟨rfl,hE1⟩
 replace HO:=Lib.hid (HO.out.ext hE1)
 replace hX:=hX.trans hE1
 go_wp2_with fail
 refine (h2.out _ (HL.out.ext hX)).mono ?_
 rintro e w2 ⟨rfl,hE2⟩
 replace HO:=Lib.hid (HO.out.ext hE2)
 replace hX:=hX.trans hE2
 go_wp2_with fail
 refine (hl.out _ (HL.out.ext hX)).mono ?_
 rintro e w3 ⟨rfl,hE3⟩
 replace HO:=Lib.hid (HO.out.ext hE3)
 replace hX:=hX.trans hE3
 obtain ⟨q0,q1,f0,f1,r0,r1,hF⟩:=two_end hX (Nat.le_refl _) HO.out (I x) (I y)
 have Hres:=Lib.hid (show RetF w (.tuple #[.agg #[I x,I y],.int .i64 0]) (.returned (.tuple #[.agg #[I x,I y],.int .i64 0])) _ from ⟨rfl,hF.out⟩)
 go_wp2_with fail
 refine bodyPost_ret (v := .tuple #[.agg #[I x,I y],.int .i64 0]) (by simp [results,Tryz.results110,go_sem,r0,r1]) rfl Hres.out
theorem fr2_alloc (w:World) (T:TypeId) (a b c d e f:Value) : ∃ X,((w.alloc (.cells #[a,b] T)).alloc (.cells #[c,d] T)).alloc (.cells #[e,f] T)=X∧Ext w X ∧
  X.cell? ⟨w.heap.size,0,none⟩=some a∧X.cell? ⟨w.heap.size,1,none⟩=some b∧X.cell? ⟨w.heap.size+1,0,none⟩=some c∧X.cell? ⟨w.heap.size+1,1,none⟩=some d ∧
  OwnV T w.heap.size X (w.heap.size+1+1) 2 [e,f]:=by
 have h1:=two_alloc w T a b
 have h2:=two_alloc (w.alloc (.cells #[a,b] T)) T c d
 have h3:=two_alloc ((w.alloc (.cells #[a,b] T)).alloc (.cells #[c,d] T)) T e f
 have x2:Ext (w.alloc (.cells #[a,b] T)) ((w.alloc (.cells #[a,b] T)).alloc (.cells #[c,d] T)):=(Ext.refl _).alloc _
 have x3:Ext ((w.alloc (.cells #[a,b] T)).alloc (.cells #[c,d] T)) (((w.alloc (.cells #[a,b] T)).alloc (.cells #[c,d] T)).alloc (.cells #[e,f] T)):=(Ext.refl _).alloc _
 have x1:Ext w (w.alloc (.cells #[a,b] T)):=(Ext.refl _).alloc _
 simp only [World.size_alloc] at h2 h3
 exact ⟨_,rfl,(x1.trans x2).trans x3,(x2.trans x3).cell (h1.cell (j:=0) (by simp)),(x2.trans x3).cell (h1.cell (j:=1) (by simp)),x3.cell (h2.cell (j:=0) (by simp)),x3.cell (h2.cell (j:=1) (by simp)),h3.mono (by omega)⟩
theorem fr1_alloc (w:World) (T:TypeId) (a b e f:Value) : ∃ X,(w.alloc (.cells #[a,b] T)).alloc (.cells #[e,f] T)=X∧Ext w X ∧
  X.cell? ⟨w.heap.size,0,none⟩=some a∧X.cell? ⟨w.heap.size,1,none⟩=some b∧OwnV T w.heap.size X (w.heap.size+1) 2 [e,f]:=by
 have h1:=two_alloc w T a b
 have h3:=two_alloc (w.alloc (.cells #[a,b] T)) T e f
 have x3:Ext (w.alloc (.cells #[a,b] T)) ((w.alloc (.cells #[a,b] T)).alloc (.cells #[e,f] T)):=(Ext.refl _).alloc _
 have x1:Ext w (w.alloc (.cells #[a,b] T)):=(Ext.refl _).alloc _
 simp only [World.size_alloc] at h3
 exact ⟨_,rfl,x1.trans x3,x3.cell (h1.cell (j:=0) (by simp)),x3.cell (h1.cell (j:=1) (by simp)),h3.mono (by omega)⟩
theorem fNeg_any {a b:Int} (ha:nd a≤LIM) (w:World) :
  Calls Tryz.prog 144 #[.agg #[I a,I b]] w fun e w'=>e = .returned (.agg #[I (-a),I b])∧Ext w w':=by
 have hN:=Lib.hid (Neg_any (z:=a) ha)
 obtain ⟨m,hm⟩ : ∃ m,m = -a:=⟨_,rfl⟩
 rw [← hm] at hN ⊢
 obtain ⟨X,hXe,hX,c0,c1,hO⟩:=fr1_alloc w 81 (I a) (I b) (.string ⟨#[]⟩) (.string ⟨#[]⟩)
 have HO:=Lib.hid hO
 obtain ⟨bs,hbs⟩ : ∃ bs,bs=w.heap.size:=⟨_,rfl⟩
 clear hO hm ha
 go_enter Tryz.func144,Tryz.ntmps144
 go_wp2_with fail
 rw [← hbs] at c0 c1 HO ⊢
 have hbs2:w.heap.size≤bs+1:=by omega
 clear hXe hbs
 have d7:Ext X X.drew:=(Ext.refl X).drew
 refine wp_region_held_tail (S:=fun W=>Ext X W) 5 (by kernel_rfl) (by simp) ?_
 intro inv
 refine wpAnyLH_take (i:=0) (v := .pointer (some ⟨bs,0,none⟩)) rfl (by kernel_rfl) (fun _ _ _ h=>h) (.inl ⟨by rfl,fun W hW=>by go_simp⟩) d7 inv ?_
 intro inv
 go_simp
 refine wpAnyLH_take (i:=1) (v:=I a) rfl (by kernel_rfl) (fun _ _ _ h=>h) (.inl ⟨by rfl,fun W hW=>by have z0:=hW.cell c0; go_simp⟩) d7 inv ?_
 intro inv
 go_simp
 refine wpAnyLH_take (i:=3) (v := .pointer (some ⟨bs,1,none⟩)) rfl (by kernel_rfl) (fun _ _ _ h=>h) (.inl ⟨by rfl,fun W hW=>by go_simp⟩) d7 inv ?_
 intro inv
 go_simp
 refine wpAnyLH_take (i:=4) (v:=I b) rfl (by kernel_rfl) (fun _ _ _ h=>h) (.inl ⟨by rfl,fun W hW=>by have z0:=hW.cell c1; go_simp⟩) d7 inv ?_
 intro inv
 go_simp
 refine wpAnyLH_one (i:=2) rfl (by kernel_rfl) (fun K0 hK0 => ?_)
 go_simp
 refine (hN.out _).mono ?_
 rintro e w1 ⟨rfl,hE1⟩
 have d1:=d7.trans hE1
 refine hK0 _ _ d1 ?_
 clear hK0
 refine wpAnyLH_end (by kernel_rfl) ?_
 replace HO:=Lib.hid (HO.out.ext d1)
 replace hX:=hX.trans d1
 obtain ⟨q0,q1,f0,f1,r0,r1,hF⟩:=two_end hX hbs2 HO.out (I m) (I b)
 have Hres:=Lib.hid (show RetF w (.agg #[I m,I b]) (.returned (.agg #[I m,I b])) _ from ⟨rfl,hF.out⟩)
 go_wp2_with fail
 refine bodyPost_ret (v := .agg #[I m,I b]) (by simp [results,Tryz.results144,go_sem,r0,r1]) rfl Hres.out
set_option maxHeartbeats 1000000 in
theorem fMul_any {a b c d:Int} (ha:nd a≤100000000) (hb:nd b≤100000000) (hc:nd c≤100000000) (hd:nd d≤100000000) (hb0:0<b) (hd0:0<d) {w:World} (hL:Laid w) :
  Calls Tryz.prog 102 #[.agg #[I a,I b],.agg #[I c,I d]] w fun e w'=>e = .returned (.agg #[I (qn (a*c) (b*d)),I (qd (a*c) (b*d))])∧Ext w w':=by
 have HL:=Lib.hid hL
 have n1:=nd_mul a c
 have n2:=nd_mul b d
 have hbd:0<b*d:=Int.mul_pos hb0 hd0
 have hl:=Lib.hid (fun w hL=>flowest_any (n:=a*c) (d:=b*d) (w:=w) (by unfold LIM; omega) (by unfold LIM; omega) (by omega) hL)
 have hm1:=Lib.hid (fun w hL=>Mul_any (a:=a) (b:=c) (w:=w) (by unfold LIM; omega) hL)
 have hm2:=Lib.hid (fun w hL=>Mul_any (a:=b) (b:=d) (w:=w) (by unfold LIM; omega) hL)
 have hb1:=Lib.hid (fboth_any (a:=a) (b:=b) (by unfold LIM; omega) (by unfold LIM; omega))
 have hb2:=Lib.hid (fboth_any (a:=c) (b:=d) (by unfold LIM; omega) (by unfold LIM; omega))
 have Hof:=Lib.hid (fun (h1:(fits 9 a&&fits 9 b)=true) (h2:(fits 9 c&&fits 9 d)=true) w hL=>fof_any (n:=a*c) (d:=b*d) (by
  simp only [Bool.and_eq_true] at h1 h2
  have f1:=fits_lt h1.1; have f2:=fits_lt h2.1
  have:=Nat.mul_le_mul (Nat.le_of_lt f1) (Nat.le_of_lt f2); rw [← Int.natAbs_mul] at this; omega) (by
  simp only [Bool.and_eq_true] at h1 h2
  have f1:=fits_lt h1.2; have f2:=fits_lt h2.2
  have:=Nat.mul_le_mul (Nat.le_of_lt f1) (Nat.le_of_lt f2); rw [← Int.natAbs_mul] at this; omega) (w:=w) hL)
 have Hw:=Lib.hid (fun (h1:(fits 9 a&&fits 9 b)=true) (h2:(fits 9 c&&fits 9 d)=true)=>(show IntKind.i64.wrap (a*c)=a*c∧IntKind.i64.wrap (b*d)=b*d from by
  simp only [Bool.and_eq_true] at h1 h2
  have f1:=fits_lt h1.1; have f2:=fits_lt h2.1
  have f3:=fits_lt h1.2; have f4:=fits_lt h2.2
  have g1:=Nat.mul_le_mul (Nat.le_of_lt f1) (Nat.le_of_lt f2); rw [← Int.natAbs_mul] at g1
  have g2:=Nat.mul_le_mul (Nat.le_of_lt f3) (Nat.le_of_lt f4); rw [← Int.natAbs_mul] at g2
  exact ⟨IntWalk.i64_in _ (by omega),IntWalk.i64_in _ (by omega)⟩))
 obtain ⟨x,hx⟩ : ∃ x,x=qn (a*c) (b*d):=⟨_,rfl⟩
 obtain ⟨y,hy⟩ : ∃ y,y=qd (a*c) (b*d):=⟨_,rfl⟩
 rw [← hx, ← hy] at hl ⊢
 rw [← hx, ← hy] at Hof
 have v1:fits 9 a=true→(if fits 9 a=true then a else 0)=a:=fun h=>if_pos h
 have v2:fits 9 b=true→(if fits 9 b=true then b else 0)=b:=fun h=>if_pos h
 have v3:fits 9 c=true→(if fits 9 c=true then c else 0)=c:=fun h=>if_pos h
 have v4:fits 9 d=true→(if fits 9 d=true then d else 0)=d:=fun h=>if_pos h
 clear hx hy n1 n2 hbd ha hb hc hd hb0 hd0 hL
 obtain ⟨X,hXe,hX,c0,c1,c2,c3,hO⟩:=fr2_alloc w 81 (I a) (I b) (I c) (I d) (.string ⟨#[]⟩) (.string ⟨#[]⟩)
 have HO:=Lib.hid hO
 obtain ⟨bs,hbs⟩ : ∃ bs,bs=w.heap.size:=⟨_,rfl⟩
 have hsz:=hX.size
 clear hO
 cases h1:(fits 9 a&&fits 9 b)
 ·rw [h1] at hb1
  generalize (if fits 9 a=true then a else 0)=a' at *
  generalize (if fits 9 b=true then b else 0)=b' at *
  clear Hof Hw h1 v1 v2 v3 v4 hb2
  go_enter Tryz.func102,Tryz.ntmps102
  go_wp2_with fail
  rw [← hbs] at c0 c1 c2 c3 HO ⊢
  have hbs2:w.heap.size≤bs+1+1:=by omega
  clear hXe hbs
  refine (hb1.out _).mono ?_
  rintro e w1 ⟨rfl,hE1⟩
  replace c0:=hE1.cell c0
  replace c1:=hE1.cell c1
  replace c2:=hE1.cell c2
  replace c3:=hE1.cell c3
  replace HO:=Lib.hid (HO.out.ext hE1)
  replace hX:=hX.trans hE1
  clear hE1
  go_wp2_with fail
  generalize w1=X at *
  have d7:Ext X X.drew:=(Ext.refl X).drew
  refine wp_region_held_tail (S:=fun W=>Ext X W) 11 (by kernel_rfl) (by simp) ?_
  intro inv
  refine wpAnyLH_take (i:=0) (v := .pointer (some ⟨bs,0,none⟩)) rfl (by kernel_rfl) (fun _ _ _ h=>h) (.inl ⟨by rfl,fun W hW=>by go_simp⟩) d7 inv ?_
  intro inv
  go_simp
  refine wpAnyLH_take (i:=1) (v:=I a) rfl (by kernel_rfl) (fun _ _ _ h=>h) (.inl ⟨by rfl,fun W hW=>by have z0:=hW.cell c0; go_simp⟩) d7 inv ?_
  intro inv
  go_simp
  refine wpAnyLH_take (i:=2) (v := .pointer (some ⟨bs+1,0,none⟩)) rfl (by kernel_rfl) (fun _ _ _ h=>h) (.inl ⟨by rfl,fun W hW=>by go_simp⟩) d7 inv ?_
  intro inv
  go_simp
  refine wpAnyLH_take (i:=3) (v:=I c) rfl (by kernel_rfl) (fun _ _ _ h=>h) (.inl ⟨by rfl,fun W hW=>by have z0:=hW.cell c2; go_simp⟩) d7 inv ?_
  intro inv
  go_simp
  refine wpAnyLH_take (i:=5) (v := .pointer (some ⟨bs,1,none⟩)) rfl (by kernel_rfl) (fun _ _ _ h=>h) (.inl ⟨by rfl,fun W hW=>by go_simp⟩) d7 inv ?_
  intro inv
  go_simp
  refine wpAnyLH_take (i:=6) (v:=I b) rfl (by kernel_rfl) (fun _ _ _ h=>h) (.inl ⟨by rfl,fun W hW=>by have z0:=hW.cell c1; go_simp⟩) d7 inv ?_
  intro inv
  go_simp
  refine wpAnyLH_take (i:=7) (v := .pointer (some ⟨bs+1,1,none⟩)) rfl (by kernel_rfl) (fun _ _ _ h=>h) (.inl ⟨by rfl,fun W hW=>by go_simp⟩) d7 inv ?_
  intro inv
  go_simp
  refine wpAnyLH_take (i:=8) (v:=I d) rfl (by kernel_rfl) (fun _ _ _ h=>h) (.inl ⟨by rfl,fun W hW=>by have z0:=hW.cell c3; go_simp⟩) d7 inv ?_
  intro inv
  go_simp
  refine wpAnyLH_one (i:=4) rfl (by kernel_rfl) (fun K0 hK0 => ?_)
  go_simp
  refine (hm1.out _ (HL.out.ext (hX.trans d7))).mono ?_
  rintro e w0 ⟨rfl,hF0⟩
  have e0:=d7.trans hF0
  refine hK0 _ _ e0 ?_
  clear hK0
  refine wpAnyLH_one (i:=9) rfl (by kernel_rfl) (fun K1 hK1 => ?_)
  go_simp
  refine (hm2.out _ (HL.out.ext (hX.trans e0))).mono ?_
  rintro e w1 ⟨rfl,hF1⟩
  have e1:=e0.trans hF1
  refine hK1 _ _ e1 ?_
  clear hK1
  refine wpAnyLH_one (i:=10) rfl (by kernel_rfl) (fun K2 hK2 => ?_)
  go_simp
  refine (hl.out _ (HL.out.ext (hX.trans e1))).mono ?_
  rintro e w2 ⟨rfl,hF2⟩
  have e2:=e1.trans hF2
  refine hK2 _ _ e2 ?_
  clear hK2
  refine wpAnyLH_end (by kernel_rfl) ?_
  replace HO:=Lib.hid (HO.out.ext e2)
  replace hX:=hX.trans e2
  obtain ⟨q0,q1,f0,f1,r0,r1,hF⟩:=two_end hX hbs2 HO.out (I x) (I y)
  have Hres:=Lib.hid (show RetF w (.agg #[I x,I y]) (.returned (.agg #[I x,I y])) _ from ⟨rfl,hF.out⟩)
  go_wp2_with fail
  refine bodyPost_ret (v := .agg #[I x,I y]) (by simp [results,Tryz.results102,go_sem,r0,r1]) rfl Hres.out
 ·rw [h1] at hb1
  cases h2:(fits 9 c&&fits 9 d)
  ·rw [h2] at hb2
   generalize (if fits 9 a=true then a else 0)=a' at *
   generalize (if fits 9 b=true then b else 0)=b' at *
   generalize (if fits 9 c=true then c else 0)=c' at *
   generalize (if fits 9 d=true then d else 0)=d' at *
   clear Hof Hw h1 h2 v1 v2 v3 v4
   go_enter Tryz.func102,Tryz.ntmps102
   go_wp2_with fail
   rw [← hbs] at c0 c1 c2 c3 HO ⊢
   have hbs2:w.heap.size≤bs+1+1:=by omega
   clear hXe hbs
   refine (hb1.out _).mono ?_
   rintro e w1 ⟨rfl,hE1⟩
   replace c0:=hE1.cell c0
   replace c1:=hE1.cell c1
   replace c2:=hE1.cell c2
   replace c3:=hE1.cell c3
   replace HO:=Lib.hid (HO.out.ext hE1)
   replace hX:=hX.trans hE1
   clear hE1
   go_wp2_with fail
   refine (hb2.out _).mono ?_
   rintro e w2 ⟨rfl,hE1⟩
   replace c0:=hE1.cell c0
   replace c1:=hE1.cell c1
   replace c2:=hE1.cell c2
   replace c3:=hE1.cell c3
   replace HO:=Lib.hid (HO.out.ext hE1)
   replace hX:=hX.trans hE1
   clear hE1
   go_wp2_with fail
   generalize w2=X at *
   have d7:Ext X X.drew:=(Ext.refl X).drew
   refine wp_region_held_tail (S:=fun W=>Ext X W) 11 (by kernel_rfl) (by simp) ?_
   intro inv
   refine wpAnyLH_take (i:=0) (v := .pointer (some ⟨bs,0,none⟩)) rfl (by kernel_rfl) (fun _ _ _ h=>h) (.inl ⟨by rfl,fun W hW=>by go_simp⟩) d7 inv ?_
   intro inv
   go_simp
   refine wpAnyLH_take (i:=1) (v:=I a) rfl (by kernel_rfl) (fun _ _ _ h=>h) (.inl ⟨by rfl,fun W hW=>by have z0:=hW.cell c0; go_simp⟩) d7 inv ?_
   intro inv
   go_simp
   refine wpAnyLH_take (i:=2) (v := .pointer (some ⟨bs+1,0,none⟩)) rfl (by kernel_rfl) (fun _ _ _ h=>h) (.inl ⟨by rfl,fun W hW=>by go_simp⟩) d7 inv ?_
   intro inv
   go_simp
   refine wpAnyLH_take (i:=3) (v:=I c) rfl (by kernel_rfl) (fun _ _ _ h=>h) (.inl ⟨by rfl,fun W hW=>by have z0:=hW.cell c2; go_simp⟩) d7 inv ?_
   intro inv
   go_simp
   refine wpAnyLH_take (i:=5) (v := .pointer (some ⟨bs,1,none⟩)) rfl (by kernel_rfl) (fun _ _ _ h=>h) (.inl ⟨by rfl,fun W hW=>by go_simp⟩) d7 inv ?_
   intro inv
   go_simp
   refine wpAnyLH_take (i:=6) (v:=I b) rfl (by kernel_rfl) (fun _ _ _ h=>h) (.inl ⟨by rfl,fun W hW=>by have z0:=hW.cell c1; go_simp⟩) d7 inv ?_
   intro inv
   go_simp
   refine wpAnyLH_take (i:=7) (v := .pointer (some ⟨bs+1,1,none⟩)) rfl (by kernel_rfl) (fun _ _ _ h=>h) (.inl ⟨by rfl,fun W hW=>by go_simp⟩) d7 inv ?_
   intro inv
   go_simp
   refine wpAnyLH_take (i:=8) (v:=I d) rfl (by kernel_rfl) (fun _ _ _ h=>h) (.inl ⟨by rfl,fun W hW=>by have z0:=hW.cell c3; go_simp⟩) d7 inv ?_
   intro inv
   go_simp
   refine wpAnyLH_one (i:=4) rfl (by kernel_rfl) (fun K0 hK0 => ?_)
   go_simp
   refine (hm1.out _ (HL.out.ext (hX.trans d7))).mono ?_
   rintro e w0 ⟨rfl,hF0⟩
   have e0:=d7.trans hF0
   refine hK0 _ _ e0 ?_
   clear hK0
   refine wpAnyLH_one (i:=9) rfl (by kernel_rfl) (fun K1 hK1 => ?_)
   go_simp
   refine (hm2.out _ (HL.out.ext (hX.trans e0))).mono ?_
   rintro e w1 ⟨rfl,hF1⟩
   have e1:=e0.trans hF1
   refine hK1 _ _ e1 ?_
   clear hK1
   refine wpAnyLH_one (i:=10) rfl (by kernel_rfl) (fun K2 hK2 => ?_)
   go_simp
   refine (hl.out _ (HL.out.ext (hX.trans e1))).mono ?_
   rintro e w2 ⟨rfl,hF2⟩
   have e2:=e1.trans hF2
   refine hK2 _ _ e2 ?_
   clear hK2
   refine wpAnyLH_end (by kernel_rfl) ?_
   replace HO:=Lib.hid (HO.out.ext e2)
   replace hX:=hX.trans e2
   obtain ⟨q0,q1,f0,f1,r0,r1,hF⟩:=two_end hX hbs2 HO.out (I x) (I y)
   have Hres:=Lib.hid (show RetF w (.agg #[I x,I y]) (.returned (.agg #[I x,I y])) _ from ⟨rfl,hF.out⟩)
   go_wp2_with fail
   refine bodyPost_ret (v := .agg #[I x,I y]) (by simp [results,Tryz.results102,go_sem,r0,r1]) rfl Hres.out
  ·rw [h2] at hb2
   obtain ⟨hw1,hw2⟩:=Hw.out h1 h2
   have hof:=Lib.hid (Hof.out h1 h2)
   simp only [Bool.and_eq_true] at h1 h2
   rw [v1 h1.1,v2 h1.2] at hb1
   rw [v3 h2.1,v4 h2.2] at hb2
   clear Hof Hw h1 h2 v1 v2 v3 v4
   go_enter Tryz.func102,Tryz.ntmps102
   go_wp2_with fail
   rw [← hbs] at c0 c1 c2 c3 HO ⊢
   have hbs2:w.heap.size≤bs+1+1:=by omega
   clear hXe hbs
   refine (hb1.out _).mono ?_
   rintro e w1 ⟨rfl,hE1⟩
   replace c0:=hE1.cell c0
   replace c1:=hE1.cell c1
   replace c2:=hE1.cell c2
   replace c3:=hE1.cell c3
   replace HO:=Lib.hid (HO.out.ext hE1)
   replace hX:=hX.trans hE1
   clear hE1
   go_wp2_with fail
   refine (hb2.out _).mono ?_
   rintro e w2 ⟨rfl,hE1⟩
   replace c0:=hE1.cell c0
   replace c1:=hE1.cell c1
   replace c2:=hE1.cell c2
   replace c3:=hE1.cell c3
   replace HO:=Lib.hid (HO.out.ext hE1)
   replace hX:=hX.trans hE1
   clear hE1
   go_wp2_with fail
   refine (hof.out _ (HL.out.ext hX)).mono ?_
   rintro e w3 ⟨rfl,hE1⟩
   replace c0:=hE1.cell c0
   replace c1:=hE1.cell c1
   replace c2:=hE1.cell c2
   replace c3:=hE1.cell c3
   replace HO:=Lib.hid (HO.out.ext hE1)
   replace hX:=hX.trans hE1
   clear hE1
   obtain ⟨q0,q1,f0,f1,r0,r1,hF⟩:=two_end hX hbs2 HO.out (I x) (I y)
   have Hres:=Lib.hid (show RetF w (.agg #[I x,I y]) (.returned (.agg #[I x,I y])) _ from ⟨rfl,hF.out⟩)
   go_wp2_with fail
   refine bodyPost_ret (v := .agg #[I x,I y]) (by simp [results,Tryz.results102,go_sem,r0,r1]) rfl Hres.out
end Go.Proofs.YtjnpakablgommaaGreatDoor
