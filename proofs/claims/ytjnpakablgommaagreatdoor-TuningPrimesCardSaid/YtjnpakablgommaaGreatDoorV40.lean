/- Part 40 of the proof of the claim: contracts of the functions that it reaches, and plain laws; no condition. -/
import Derived.Test.YtjnpakablgommaaGreatDoorV30
import Derived.BigQuiet
import Derived.Test.YtjnpakablgommaaGreatDoorV29
import Derived.Test.YtjnpakablgommaaGreatDoorV39
import Derived.Test.YtjnpakablgommaaGreatDoorV34
import Derived.Test.YtjnpakablgommaaGreatDoorV26
import Derived.Test.YtjnpakablgommaaGreatDoorV15
import Derived.Test.YtjnpakablgommaaGreatDoorV14
import Derived.Test.YtjnpakablgommaaGreatDoorV02
import Derived.Lib.Join
set_option maxRecDepth 100000
namespace Go.Proofs.YtjnpakablgommaaGreatDoor
open Go.RowKit Go.Sort
set_option maxHeartbeats 4000000 in
theorem Same24_any {w:World} {va vb:Value} {la lb:List Rat} (ha:SzR w va la) (hb:SzR w vb lb) (hl:la.length≤1000000) :
  Calls Tryz.prog 45 #[va,vb] w fun e w'=>e = .returned (.bool (decide (la=lb)))∧Ext w w':=by
 obtain ⟨sa,ga,oa,ca,rfl,hca,haa,hra⟩:=ha
 obtain ⟨sb,gb,ob,cb,rfl,hcb,hbb,hrb⟩:=hb
 have Haa:=Lib.hid haa
 have Hbb:=Lib.hid hbb
 have Hra:=Lib.hid hra
 have Hrb:=Lib.hid hrb
 have Hno:=Lib.hid (fun (h:la≠lb)=>decide_eq_false h)
 have Hyes:=Lib.hid (fun (hl:la.length=lb.length) (h : ∀ i (h:i<la.length) (h':i<lb.length),la[i]=lb[i])=>decide_eq_true (show la=lb from List.ext_getElem hl h))
 obtain ⟨n,hn⟩ : ∃ n,n=la.length:=⟨_,rfl⟩
 obtain ⟨m,hm⟩ : ∃ m,m=lb.length:=⟨_,rfl⟩
 have Hn:=Lib.hid hn
 have Hm:=Lib.hid hm
 rw [← hn] at hl ⊢
 rw [← hm]
 generalize decide (la=lb)=q at *
 clear haa hbb hra hrb hn hm hca hcb
 by_cases hnm:n=m
 ·subst hnm
  go_enter Tryz.func45,Tryz.ntmps45
  go_wp2_with fail
  go_loopw [5] (fun iv wr => ∃ i:Nat,i≤n∧iv = .int .i64 i∧Hid (∀ t (h:t<la.length) (h':t<lb.length),t<i→la[t]=lb[t])∧Ext w wr) (fun iv _=>n-(intOf iv).toNat)
  case atStart=>exact ⟨0,by omega,by go_num,Lib.hid (fun t _ _ h=>by omega),Ext.refl _⟩
  case round =>
   obtain ⟨i,hi,rfl,HA,hE⟩:=hrel
   generalize wr=X at *
   by_cases hlt:i<n
   ·have hii:(i:Int)<(n:Int):=by omega
    have hia:i<la.length:=by rw [← Hn.out]; exact hlt
    have hib:i<lb.length:=by rw [← Hm.out]; exact hlt
    obtain rfl:=Haa.out (by omega)
    obtain rfl:=Hbb.out (by omega)
    obtain ⟨a0,a1⟩:=Hra.out i hia
    obtain ⟨b0,b1⟩:=Hrb.out i hib
    replace a0:=hE.cell a0
    replace a1:=hE.cell a1
    replace b0:=hE.cell b0
    replace b1:=hE.cell b1
    have Hq:=Lib.hid (fun (h:la[i]≠lb[i])=>Hno.out (fun h2=>h (by simp only [h2])))
    have HA':=Lib.hid (fun (h:la[i]=lb[i]) t (ht:t<la.length) (ht':t<lb.length) (hti:t<i+1)=>show la[t]=lb[t] by
     by_cases e:t=i
     ·subst e; exact h
     ·exact HA.out t ht ht' (by omega))
    obtain ⟨x,hx⟩ : ∃ x,x=la[i]:=⟨_,rfl⟩
    obtain ⟨y,hy⟩ : ∃ y,y=lb[i]:=⟨_,rfl⟩
    rw [← hx] at a0 a1 Hq HA'
    rw [← hy] at b0 b1 Hq HA'
    clear hx hy HA hlt hia hib
    have hqd : ∀ u v:Int,(Lib.itoa u==Lib.itoa v)=decide (u=v):=fun u v=>by
     by_cases h:u=v
     ·subst h; simp
     ·rw [decide_eq_false h,beq_eq_false_iff_ne]; exact fun hc=>h (itoa_inj hc)
    have k1:=hqd x.num y.num
    have k2:=hqd x.den y.den
    by_cases hxy:x=y
    ·subst hxy
     have HA:=Lib.hid (HA'.out rfl)
     clear HA' Hq k1 k2 hqd
     go_wp2_with fail
     go_quiet (fail)
     have hE:=hE.drewN nq
     go_wp2_with fail
     go_roundw
     case rel=>exact ⟨i+1,by omega,by go_num,HA,hE⟩
     case measure=>simp [intOf] <;> omega
    ·have Hq0:=Lib.hid (Hq.out hxy)
     have hd:x.num≠y.num∨(x.num=y.num∧(x.den:Int)≠(y.den:Int)):=by
      by_cases h1:x.num=y.num
      ·exact .inr ⟨h1,fun h2=>hxy (Rat.ext h1 (by omega))⟩
      ·exact .inl h1
     clear HA' Hq hxy hqd
     obtain ⟨la',hla⟩ : ∃ l,l=Lib.itoa x.num:=⟨_,rfl⟩
     obtain ⟨lb',hlb⟩ : ∃ l,l=Lib.itoa y.num:=⟨_,rfl⟩
     obtain ⟨da',hda⟩ : ∃ l,l=Lib.itoa x.den:=⟨_,rfl⟩
     obtain ⟨db',hdb⟩ : ∃ l,l=Lib.itoa y.den:=⟨_,rfl⟩
     unfold I S at a0 a1 b0 b1
     rw [← hla, ← hlb] at k1
     rw [← hda, ← hdb] at k2
     rw [← hla] at a0
     rw [← hda] at a1
     rw [← hlb] at b0
     rw [← hdb] at b1
     rcases hd with hd | ⟨hd,hd2⟩
     ·rw [decide_eq_false hd] at k1
      have k3:(la' != lb')=true:=by simp [bne,k1]
      clear hd k2 hla hlb hda hdb
      go_wp2_with fail
      go_quiet (fail)
      have hE:=hE.drewN nq
      go_wp2_with fail
      go_ret
      exact ⟨ret_val (congrArg Value.bool Hq0.out.symm),hE⟩
     ·rw [decide_eq_false hd2] at k2
      have k3:(da' != db')=true:=by simp [bne,k2]
      rw [decide_eq_true hd] at k1
      obtain rfl:la'=lb':=by simpa using k1
      clear hd k1 hd2 hla hlb hda hdb
      go_wp2_with fail
      go_quiet (fail)
      have hE:=hE.drewN nq
      go_wp2_with fail
      go_ret
      exact ⟨ret_val (congrArg Value.bool Hq0.out.symm),hE⟩
   ·obtain rfl:i=n:=by omega
    have hii : ¬ (i:Int)<(i:Int):=by omega
    have Hq:=Lib.hid (Hyes.out (by rw [← Hn.out, ← Hm.out]) (fun t h h'=>HA.out t h h' (by rw [Hn.out]; exact h)))
    clear hlt HA
    go_wp2_with fail
    go_ret
    exact ⟨ret_val (congrArg Value.bool Hq.out.symm),hE⟩
 ·have h1 : ¬ ((n:Int)=(m:Int)):=by omega
  have h2:((n:Int)==(m:Int))=false:=beq_eq_false_iff_ne.2 h1
  have h3:((n:Int) != (m:Int))=true:=by simp [bne,h2]
  have Hq:=Lib.hid (Hno.out (fun h=>hnm (by rw [Hn.out,Hm.out,h])))
  clear hnm
  go_enter Tryz.func45,Tryz.ntmps45
  go_wp2_with fail
  go_ret
  exact ⟨ret_val (congrArg Value.bool Hq.out.symm),Ext.refl _⟩
set_option maxHeartbeats 4000000 in
theorem same18_any {w:World} {P P':List Int} {C M C' M':Mx} {sp sp':Option Addr} {cp cp':Nat} {sc sc':Option Addr} {lc cc lc' cc':Nat} {sm sm':Option Addr} {lm cm lm' cm':Nat} (h:TmV w P C M M sp cp sc lc cc sm lm cm) (h':TmV w P' C' M' M' sp' cp' sc' lc' cc' sm' lm' cm'):Calls Tryz.prog 104 #[tmS P sp cp sc lc cc sm lm cm,tmS P' sp' cp' sc' lc' cc' sm' lm' cm'] w fun e w'=>e = .returned (.bool (decide (P=P'∧C=C'∧M=M')))∧Ext w w':=by
 have hp4:=h.ok.p4
 have hc4:=h.m4
 obtain ⟨psC,hIC⟩:=h.ok.kC.1
 obtain ⟨psM,hIM⟩:=h.ok.kM.1
 have hlC:=isH_len hIC
 have q1:=Lib.hid (fun W (hW:Ext w W)=>eqRows6_any (h.hP.ext hW) (h'.hP.ext hW) (by omega))
 have q2:=Lib.hid (fun W (hW:Ext w W)=>equal6_any (h.hC.ext hW) (h'.hC.ext hW) (by omega) (fun r hr=>by rw [hIC.rect r hr]; omega))
 have q3:=Lib.hid (fun W (hW:Ext w W)=>equal6_any (h.hM.ext hW) (h'.hM.ext hW) (by omega) (fun r hr=>by rw [hIM.rect r hr]; omega))
 have hX:=((Ext.refl w).alloc (.cells #[.slice sp P.length cp,.slice sc lc cc,.slice sm lm cm] 34)).alloc (.cells #[.slice sp' P'.length cp',.slice sc' lc' cc',.slice sm' lm' cm'] 34)
 have x0:((w.alloc (.cells #[.slice sp P.length cp,.slice sc lc cc,.slice sm lm cm] 34)).alloc (.cells #[.slice sp' P'.length cp',.slice sc' lc' cc',.slice sm' lm' cm'] 34)).cell? ⟨w.heap.size,0,none⟩=some (.slice sp P.length cp):=by go_simp
 have x1:((w.alloc (.cells #[.slice sp P.length cp,.slice sc lc cc,.slice sm lm cm] 34)).alloc (.cells #[.slice sp' P'.length cp',.slice sc' lc' cc',.slice sm' lm' cm'] 34)).cell? ⟨w.heap.size,1,none⟩=some (.slice sc lc cc):=by go_simp
 have x2:((w.alloc (.cells #[.slice sp P.length cp,.slice sc lc cc,.slice sm lm cm] 34)).alloc (.cells #[.slice sp' P'.length cp',.slice sc' lc' cc',.slice sm' lm' cm'] 34)).cell? ⟨w.heap.size,2,none⟩=some (.slice sm lm cm):=by go_simp
 have x3:((w.alloc (.cells #[.slice sp P.length cp,.slice sc lc cc,.slice sm lm cm] 34)).alloc (.cells #[.slice sp' P'.length cp',.slice sc' lc' cc',.slice sm' lm' cm'] 34)).cell? ⟨w.heap.size+1,0,none⟩=some (.slice sp' P'.length cp'):=by go_simp
 have x4:((w.alloc (.cells #[.slice sp P.length cp,.slice sc lc cc,.slice sm lm cm] 34)).alloc (.cells #[.slice sp' P'.length cp',.slice sc' lc' cc',.slice sm' lm' cm'] 34)).cell? ⟨w.heap.size+1,1,none⟩=some (.slice sc' lc' cc'):=by go_simp
 have x5:((w.alloc (.cells #[.slice sp P.length cp,.slice sc lc cc,.slice sm lm cm] 34)).alloc (.cells #[.slice sp' P'.length cp',.slice sc' lc' cc',.slice sm' lm' cm'] 34)).cell? ⟨w.heap.size+1,2,none⟩=some (.slice sm' lm' cm'):=by go_simp
 clear h h' hp4 hc4 hIC hIM hlC
 by_cases h1:P=P'
 ·by_cases h2:C=C'
  ·have hd:decide (P=P'∧C=C'∧M=M')=decide (M=M'):=by
    rw [decide_eq_decide]; exact ⟨fun h=>h.2.2,fun h=>⟨h1,h2,h⟩⟩
   rw [hd]
   rw [decide_eq_true h1] at q1
   rw [decide_eq_true h2] at q2
   generalize decide (M=M')=z at *
   clear hd h1 h2
   go_enter Tryz.func104,Tryz.ntmps104
   go_wp2_with fail
   refine (q1.out _ hX).mono ?_
   rintro e W1 ⟨rfl,hE1⟩
   have e1:=hX.trans hE1
   replace x1:=hE1.cell x1
   replace x2:=hE1.cell x2
   replace x4:=hE1.cell x4
   replace x5:=hE1.cell x5
   clear x0 x3
   go_wp2_with fail
   refine (q2.out _ e1).mono ?_
   rintro e W2 ⟨rfl,hE2⟩
   have e2:=e1.trans hE2
   replace x2:=hE2.cell x2
   replace x5:=hE2.cell x5
   clear x1 x4
   go_wp2_with fail
   refine (q3.out _ e2).mono ?_
   rintro e W3 ⟨rfl,hE3⟩
   have e3:=e2.trans hE3
   clear x2 x5
   go_wp2_with fail
   go_ret
   exact ⟨rfl,e3⟩
  ·rw [decide_eq_false (fun h=>h2 h.2.1)]
   rw [decide_eq_true h1] at q1
   rw [decide_eq_false h2] at q2
   clear h1 h2 q3
   go_enter Tryz.func104,Tryz.ntmps104
   go_wp2_with fail
   refine (q1.out _ hX).mono ?_
   rintro e W1 ⟨rfl,hE1⟩
   have e1:=hX.trans hE1
   replace x1:=hE1.cell x1
   replace x4:=hE1.cell x4
   clear x0 x3
   go_wp2_with fail
   refine (q2.out _ e1).mono ?_
   rintro e W2 ⟨rfl,hE2⟩
   have e2:=e1.trans hE2
   go_wp2_with fail
   go_ret
   exact ⟨rfl,e2⟩
 ·rw [decide_eq_false (fun h=>h1 h.1)]
  rw [decide_eq_false h1] at q1
  clear h1 q2 q3
  go_enter Tryz.func104,Tryz.ntmps104
  go_wp2_with fail
  refine (q1.out _ hX).mono ?_
  rintro e W1 ⟨rfl,hE1⟩
  have e1:=hX.trans hE1
  go_wp2_with fail
  go_ret
  exact ⟨rfl,e1⟩
theorem Same18_any {w:World} {P P':List Int} {C M C' M':Mx} {sp sp':Option Addr} {cp cp':Nat} {sc sc':Option Addr} {lc cc lc' cc':Nat} {sm sm':Option Addr} {lm cm lm' cm':Nat} (h:TmV w P C M M sp cp sc lc cc sm lm cm) (h':TmV w P' C' M' M' sp' cp' sc' lc' cc' sm' lm' cm'):Calls Tryz.prog 44 #[tmS P sp cp sc lc cc sm lm cm,tmS P' sp' cp' sc' lc' cc' sm' lm' cm'] w fun e w'=>e = .returned (.bool (decide (P=P'∧C=C'∧M=M')))∧Ext w w':=by
 have q1:=Lib.hid (fun W (hW:Ext w W)=>same18_any (h.ext hW) (h'.ext hW))
 generalize decide (P=P'∧C=C'∧M=M')=z at *
 have hX:=((Ext.refl w).alloc (.cells #[.slice sp P.length cp,.slice sc lc cc,.slice sm lm cm] 34)).alloc (.cells #[.slice sp' P'.length cp',.slice sc' lc' cc',.slice sm' lm' cm'] 34)
 clear h h'
 go_enter Tryz.func44,Tryz.ntmps44
 go_wp2_with fail
 refine (q1.out _ hX).mono ?_
 rintro e W1 ⟨rfl,hE1⟩
 go_wp2_with fail
 go_ret
 exact ⟨rfl,hX.trans hE1⟩
set_option maxHeartbeats 4000000 in
theorem equal24_any {w:World} {P P':List Int} {C M C' M':Mx} {G G':List (List Rat)} {sp sp':Option Addr} {cp cp':Nat} {sc sc':Option Addr} {lc cc lc' cc':Nat} {sm sm':Option Addr} {lm cm lm' cm':Nat} {sg sg':Option Addr} {lg cg lg' cg':Nat} (h:TuV w P C M G sp cp sc lc cc sm lm cm sg lg cg) (h':TuV w P' C' M' G' sp' cp' sc' lc' cc' sm' lm' cm' sg' lg' cg'):Calls Tryz.prog 51 #[tuS P sp cp sc lc cc sm lm cm sg lg cg,tuS P' sp' cp' sc' lc' cc' sm' lm' cm' sg' lg' cg'] w fun e w'=>e = .returned (.bool (decide (P=P'∧C=C'∧M=M'∧G=G')))∧Ext w w':=by
 have hp4:=h.tm.ok.p4
 have hm4:=h.tm.m4
 have hg4:G.length≤4:=by rw [h.ln]; exact hm4
 have Hcl:=Lib.hid h.cl
 have hlg:=h.gn.len
 have hlg':=h'.gn.len
 have Hll:=Lib.hid (fun (e:M=M')=>show G.length=G'.length by rw [h.ln,h'.ln,e])
 have q1:=Lib.hid (fun W (hW:Ext w W)=>Same18_any (h.tm.ext hW) (h'.tm.ext hW))
 have Hp4:=Lib.hid hp4
 have hgn:=h.gn
 have hgn':=h'.gn
 have hX:=((Ext.refl w).alloc (.cells #[.slice sp P.length cp,.slice sc lc cc,.slice sm lm cm,.slice sg lg cg] 67)).alloc (.cells #[.slice sp' P'.length cp',.slice sc' lc' cc',.slice sm' lm' cm',.slice sg' lg' cg'] 67)
 have x0:((w.alloc (.cells #[.slice sp P.length cp,.slice sc lc cc,.slice sm lm cm,.slice sg lg cg] 67)).alloc (.cells #[.slice sp' P'.length cp',.slice sc' lc' cc',.slice sm' lm' cm',.slice sg' lg' cg'] 67)).cell? ⟨w.heap.size,0,none⟩=some (.slice sp P.length cp):=by go_simp
 have x1:((w.alloc (.cells #[.slice sp P.length cp,.slice sc lc cc,.slice sm lm cm,.slice sg lg cg] 67)).alloc (.cells #[.slice sp' P'.length cp',.slice sc' lc' cc',.slice sm' lm' cm',.slice sg' lg' cg'] 67)).cell? ⟨w.heap.size,1,none⟩=some (.slice sc lc cc):=by go_simp
 have x2:((w.alloc (.cells #[.slice sp P.length cp,.slice sc lc cc,.slice sm lm cm,.slice sg lg cg] 67)).alloc (.cells #[.slice sp' P'.length cp',.slice sc' lc' cc',.slice sm' lm' cm',.slice sg' lg' cg'] 67)).cell? ⟨w.heap.size,2,none⟩=some (.slice sm lm cm):=by go_simp
 have x3:((w.alloc (.cells #[.slice sp P.length cp,.slice sc lc cc,.slice sm lm cm,.slice sg lg cg] 67)).alloc (.cells #[.slice sp' P'.length cp',.slice sc' lc' cc',.slice sm' lm' cm',.slice sg' lg' cg'] 67)).cell? ⟨w.heap.size,3,none⟩=some (.slice sg lg cg):=by go_simp
 have x4:((w.alloc (.cells #[.slice sp P.length cp,.slice sc lc cc,.slice sm lm cm,.slice sg lg cg] 67)).alloc (.cells #[.slice sp' P'.length cp',.slice sc' lc' cc',.slice sm' lm' cm',.slice sg' lg' cg'] 67)).cell? ⟨w.heap.size+1,0,none⟩=some (.slice sp' P'.length cp'):=by go_simp
 have x5:((w.alloc (.cells #[.slice sp P.length cp,.slice sc lc cc,.slice sm lm cm,.slice sg lg cg] 67)).alloc (.cells #[.slice sp' P'.length cp',.slice sc' lc' cc',.slice sm' lm' cm',.slice sg' lg' cg'] 67)).cell? ⟨w.heap.size+1,1,none⟩=some (.slice sc' lc' cc'):=by go_simp
 have x6:((w.alloc (.cells #[.slice sp P.length cp,.slice sc lc cc,.slice sm lm cm,.slice sg lg cg] 67)).alloc (.cells #[.slice sp' P'.length cp',.slice sc' lc' cc',.slice sm' lm' cm',.slice sg' lg' cg'] 67)).cell? ⟨w.heap.size+1,2,none⟩=some (.slice sm' lm' cm'):=by go_simp
 have x7:((w.alloc (.cells #[.slice sp P.length cp,.slice sc lc cc,.slice sm lm cm,.slice sg lg cg] 67)).alloc (.cells #[.slice sp' P'.length cp',.slice sc' lc' cc',.slice sm' lm' cm',.slice sg' lg' cg'] 67)).cell? ⟨w.heap.size+1,3,none⟩=some (.slice sg' lg' cg'):=by go_simp
 obtain ⟨sa,ga,oa,ca,va',ev,hca,hvA,hSa,hrA⟩:=hgn
 obtain ⟨sb,gb,ob,cb,vb',ev',hcb,hvB,hSb,hrB⟩:=hgn'
 injection ev with ev1 ev2 ev3
 injection ev' with ev4 ev5 ev6
 subst ev1 ev3 ev4 ev6
 have HA:=Lib.hid hSa
 have HB:=Lib.hid hSb
 have HvA:=Lib.hid hvA
 have HvB:=Lib.hid hvB
 have HrA:=Lib.hid hrA
 have HrB:=Lib.hid hrB
 clear h h' hp4 hm4 hSa hSb hvA hvB hrA hrB hca hcb ev2 ev5
 by_cases h1:P=P'∧C=C'∧M=M'
 ·have hd:decide (P=P'∧C=C'∧M=M'∧G=G')=decide (G=G'):=by
   rw [decide_eq_decide]; exact ⟨fun h=>h.2.2.2,fun h=>⟨h1.1,h1.2.1,h1.2.2,h⟩⟩
  rw [hd]
  have hle:=Hll.out h1.2.2
  have Hno:=Lib.hid (fun (h:G≠G')=>decide_eq_false h)
  have Hyes:=Lib.hid (fun (h : ∀ i (h:i<G.length) (h':i<G'.length),G[i]=G'[i])=>decide_eq_true (show G=G' from List.ext_getElem hle h))
  rw [decide_eq_true h1] at q1
  generalize decide (G=G')=q at *
  obtain ⟨n,hn⟩ : ∃ n,n=G.length:=⟨_,rfl⟩
  have Hn:=Lib.hid hn
  have Hm:=Lib.hid (show n=G'.length by rw [hn,hle])
  rw [← hn] at hg4
  have Hlg:=Lib.hid (show lg=n by rw [hlg,hn])
  have Hlg':=Lib.hid (show lg'=n by rw [hlg', ← hle,hn])
  clear hd h1 hle hn hlg hlg'
  go_enter Tryz.func51,Tryz.ntmps51
  go_wp2_with fail
  refine (q1.out _ hX).mono ?_
  rintro e W1 ⟨rfl,hE1⟩
  have e1:=hX.trans hE1
  replace x3:=hE1.cell x3
  replace x7:=hE1.cell x7
  clear x0 x1 x2 x4 x5 x6 hX hE1 q1
  rw [Hlg.out] at x3
  rw [Hlg'.out] at x7
  go_wp2_with fail
  go_loopw [5] (fun idx wr => ∃ i:Nat,i≤n∧idx = .int .i64 i∧Hid (∀ t (h:t<G.length) (h':t<G'.length),t<i→G[t]=G'[t])∧Ext W1 wr) (fun idx _=>n-(intOf idx).toNat)
  case atStart=>exact ⟨0,by omega,by go_num,Lib.hid (fun t _ _ h=>by omega),Ext.refl _⟩
  case round =>
   obtain ⟨i,hi,rfl,Hz,hE⟩:=hrel
   generalize wr=X at *
   have y3:=hE.cell x3
   have y7:=hE.cell x7
   by_cases hlt:i<n
   ·have hii:(i:Int)<(n:Int):=by omega
    have hiA:i<G.length:=by rw [← Hn.out]; exact hlt
    have hiB:i<G'.length:=by rw [← Hm.out]; exact hlt
    have hia:i<va'.length:=by rw [HvA.out]; exact hiA
    have hib:i<vb'.length:=by rw [HvB.out]; exact hiB
    obtain rfl:=HA.out.addr (by omega)
    obtain rfl:=HB.out.addr (by omega)
    have eX:=e1.trans hE
    have k1:=eX.cell (HA.out.cell i _ (List.getElem?_eq_getElem hia))
    have k2:=eX.cell (HB.out.cell i _ (List.getElem?_eq_getElem hib))
    have hx1:=(HrA.out i hiA hia).ext eX
    have hy1:=(HrB.out i hiB hib).ext eX
    have hEQ:=Lib.hid (fun W (hW:Ext X W)=>Same24_any (hx1.ext hW) (hy1.ext hW) (by rw [Hcl.out _ (List.getElem_mem hiA)]; have:=Hp4.out; omega))
    have Hq:=Lib.hid (fun (h:G[i]≠G'[i])=>Hno.out (fun h2=>h (by simp only [h2])))
    have HA':=Lib.hid (fun (h:G[i]=G'[i]) t (ht:t<G.length) (ht':t<G'.length) (hti:t<i+1)=>show G[t]=G'[t] by
     by_cases e:t=i
     ·subst e; exact h
     ·exact Hz.out t ht ht' (by omega))
    obtain ⟨xa,xb,xo,xc,ex,hz1⟩:=hx1
    obtain ⟨ya,yb,yo,yc,ey,hz2⟩:=hy1
    rw [ex] at k1 hEQ
    rw [ey] at k2 hEQ
    clear hz1 hz2 ex ey hia hib
    by_cases hc:G[i]=G'[i]
    ·skip
     rw [decide_eq_true hc] at hEQ
     have Hz:=Lib.hid (HA'.out hc)
     generalize G[i].length=nx at *
     generalize G'[i].length=ny at *
     clear HA' Hq hc
     go_wp2_with fail
     have d0:Ext X X.drew:=(Ext.refl X).drew
     refine wp_region_held_tail (S:=fun W=>Ext X W) 11 (by kernel_rfl) (by simp) ?_
     intro inv
     generalize X.drew=X1 at *
     refine wpAnyLH_take (i:=0) (v := .pointer (some ⟨w.heap.size,3,none⟩)) rfl (by kernel_rfl) (fun _ _ _ h=>h) (.inl ⟨by rfl,fun W hW=>by go_simp⟩) d0 inv ?_
     intro inv
     go_simp
     refine wpAnyLH_take (i:=1) (v := .slice (some ⟨ga,oa,none⟩) n cg) rfl (by kernel_rfl) (fun _ _ _ h=>h) (.inl ⟨by rfl,fun W hW=>by have z0:=hW.cell y3; go_simp⟩) d0 inv ?_
     intro inv
     go_simp
     refine wpAnyLH_take (i:=2) (v := .int .i64 i) rfl (by kernel_rfl) (fun _ _ _ h=>h) (.inl ⟨by rfl,fun W hW=>by go_simp⟩) d0 inv ?_
     intro inv
     go_simp
     refine wpAnyLH_take (i:=3) (v := .pointer (some ⟨ga,oa+i,none⟩)) rfl (by kernel_rfl) (fun _ _ _ h=>h) (.inl ⟨by rfl,fun W hW=>by go_simp⟩) d0 inv ?_
     intro inv
     go_simp
     refine wpAnyLH_take (i:=4) (v := .slice xa nx xc) rfl (by kernel_rfl) (fun _ _ _ h=>h) (.inl ⟨by rfl,fun W hW=>by have z0:=hW.cell k1; go_simp⟩) d0 inv ?_
     intro inv
     go_simp
     refine wpAnyLH_take (i:=5) (v := .pointer (some ⟨w.heap.size+1,3,none⟩)) rfl (by kernel_rfl) (fun _ _ _ h=>h) (.inl ⟨by rfl,fun W hW=>by go_simp⟩) d0 inv ?_
     intro inv
     go_simp
     refine wpAnyLH_take (i:=6) (v := .slice (some ⟨gb,ob,none⟩) n cg') rfl (by kernel_rfl) (fun _ _ _ h=>h) (.inl ⟨by rfl,fun W hW=>by have z0:=hW.cell y7; go_simp⟩) d0 inv ?_
     intro inv
     go_simp
     refine wpAnyLH_take (i:=7) (v := .int .i64 i) rfl (by kernel_rfl) (fun _ _ _ h=>h) (.inl ⟨by rfl,fun W hW=>by go_simp⟩) d0 inv ?_
     intro inv
     go_simp
     refine wpAnyLH_take (i:=8) (v := .pointer (some ⟨gb,ob+i,none⟩)) rfl (by kernel_rfl) (fun _ _ _ h=>h) (.inl ⟨by rfl,fun W hW=>by go_simp⟩) d0 inv ?_
     intro inv
     go_simp
     refine wpAnyLH_take (i:=9) (v := .slice ya ny yc) rfl (by kernel_rfl) (fun _ _ _ h=>h) (.inl ⟨by rfl,fun W hW=>by have z0:=hW.cell k2; go_simp⟩) d0 inv ?_
     intro inv
     go_simp
     refine wpAnyLH_oneI (i:=10) rfl (by kernel_rfl) inv (fun inv K0 hK0 => ?_)
     go_simp
     refine (hEQ.out _ d0).mono ?_
     rintro e X2 ⟨rfl,hG⟩
     have d1:=d0.trans hG
     refine hK0 _ _ d1 ?_
     clear hK0
     refine wpAnyLH_end (by kernel_rfl) ?_
     have hE2:=hE.trans d1
     have eF:=eX.trans d1
     clear inv d0 d1 hG hEQ k1 k2 y3 y7
     go_wp2_with fail
     go_roundw
     case rel=>exact ⟨i+1,by omega,by go_num,Hz,hE2⟩
     case measure=>simp [intOf] <;> omega
    ·skip
     rw [decide_eq_false hc] at hEQ
     have Hq0:=Lib.hid (Hq.out hc)
     generalize G[i].length=nx at *
     generalize G'[i].length=ny at *
     clear HA' Hq hc
     go_wp2_with fail
     have d0:Ext X X.drew:=(Ext.refl X).drew
     refine wp_region_held_tail (S:=fun W=>Ext X W) 11 (by kernel_rfl) (by simp) ?_
     intro inv
     generalize X.drew=X1 at *
     refine wpAnyLH_take (i:=0) (v := .pointer (some ⟨w.heap.size,3,none⟩)) rfl (by kernel_rfl) (fun _ _ _ h=>h) (.inl ⟨by rfl,fun W hW=>by go_simp⟩) d0 inv ?_
     intro inv
     go_simp
     refine wpAnyLH_take (i:=1) (v := .slice (some ⟨ga,oa,none⟩) n cg) rfl (by kernel_rfl) (fun _ _ _ h=>h) (.inl ⟨by rfl,fun W hW=>by have z0:=hW.cell y3; go_simp⟩) d0 inv ?_
     intro inv
     go_simp
     refine wpAnyLH_take (i:=2) (v := .int .i64 i) rfl (by kernel_rfl) (fun _ _ _ h=>h) (.inl ⟨by rfl,fun W hW=>by go_simp⟩) d0 inv ?_
     intro inv
     go_simp
     refine wpAnyLH_take (i:=3) (v := .pointer (some ⟨ga,oa+i,none⟩)) rfl (by kernel_rfl) (fun _ _ _ h=>h) (.inl ⟨by rfl,fun W hW=>by go_simp⟩) d0 inv ?_
     intro inv
     go_simp
     refine wpAnyLH_take (i:=4) (v := .slice xa nx xc) rfl (by kernel_rfl) (fun _ _ _ h=>h) (.inl ⟨by rfl,fun W hW=>by have z0:=hW.cell k1; go_simp⟩) d0 inv ?_
     intro inv
     go_simp
     refine wpAnyLH_take (i:=5) (v := .pointer (some ⟨w.heap.size+1,3,none⟩)) rfl (by kernel_rfl) (fun _ _ _ h=>h) (.inl ⟨by rfl,fun W hW=>by go_simp⟩) d0 inv ?_
     intro inv
     go_simp
     refine wpAnyLH_take (i:=6) (v := .slice (some ⟨gb,ob,none⟩) n cg') rfl (by kernel_rfl) (fun _ _ _ h=>h) (.inl ⟨by rfl,fun W hW=>by have z0:=hW.cell y7; go_simp⟩) d0 inv ?_
     intro inv
     go_simp
     refine wpAnyLH_take (i:=7) (v := .int .i64 i) rfl (by kernel_rfl) (fun _ _ _ h=>h) (.inl ⟨by rfl,fun W hW=>by go_simp⟩) d0 inv ?_
     intro inv
     go_simp
     refine wpAnyLH_take (i:=8) (v := .pointer (some ⟨gb,ob+i,none⟩)) rfl (by kernel_rfl) (fun _ _ _ h=>h) (.inl ⟨by rfl,fun W hW=>by go_simp⟩) d0 inv ?_
     intro inv
     go_simp
     refine wpAnyLH_take (i:=9) (v := .slice ya ny yc) rfl (by kernel_rfl) (fun _ _ _ h=>h) (.inl ⟨by rfl,fun W hW=>by have z0:=hW.cell k2; go_simp⟩) d0 inv ?_
     intro inv
     go_simp
     refine wpAnyLH_oneI (i:=10) rfl (by kernel_rfl) inv (fun inv K0 hK0 => ?_)
     go_simp
     refine (hEQ.out _ d0).mono ?_
     rintro e X2 ⟨rfl,hG⟩
     have d1:=d0.trans hG
     refine hK0 _ _ d1 ?_
     clear hK0
     refine wpAnyLH_end (by kernel_rfl) ?_
     have hE2:=hE.trans d1
     have eF:=eX.trans d1
     clear inv d0 d1 hG hEQ k1 k2 y3 y7
     go_wp2_with fail
     go_ret
     exact ⟨ret_val (congrArg Value.bool Hq0.out.symm),eF⟩
   ·obtain rfl:i=n:=by omega
    have hii : ¬ (i:Int)<(i:Int):=by omega
    have Hq:=Lib.hid (Hyes.out (fun t h h'=>Hz.out t h h' (by rw [Hn.out]; exact h)))
    have eF:=e1.trans hE
    clear hlt Hz
    go_wp2_with fail
    go_ret
    exact ⟨ret_val (congrArg Value.bool Hq.out.symm),eF⟩
 ·rw [decide_eq_false (fun h=>h1 ⟨h.1,h.2.1,h.2.2.1⟩)]
  rw [decide_eq_false h1] at q1
  clear h1 hlg hlg'
  go_enter Tryz.func51,Tryz.ntmps51
  go_wp2_with fail
  refine (q1.out _ hX).mono ?_
  rintro e W1 ⟨rfl,hE1⟩
  have e1:=hX.trans hE1
  go_wp2_with fail
  go_ret
  exact ⟨rfl,e1⟩
def frT (r:Rat):List UInt8:=if r.den=1 then Lib.itoa r.num else Lib.itoa r.num++47::Lib.itoa r.den
theorem ba_app (a b:List UInt8):(⟨a.toArray⟩:ByteArray)++⟨b.toArray⟩=⟨(a++b).toArray⟩:=ByteArray.ext (by simp)
theorem itoa_len (z:Int):(Lib.itoa z).length≤nd z+1:=by
 rcases Int.lt_or_le z 0 with h | h
 ·rw [itoa_neg h,List.length_cons,Lib.decDigits_length]; exact Nat.le_refl _
 ·rw [itoa_pos h,Lib.decDigits_length]; exact Nat.le_succ _
theorem fText_any {r:Rat} (hr:nd r.num≤1000∧nd r.den≤1000) (w:World):Calls Tryz.prog 154 #[RV r] w fun e w'=>e = .returned (S (frT r))∧Ext w w':=by
 show Calls Tryz.prog 154 #[.agg #[I r.num,I r.den]] w _
 have hX:=(Ext.refl w).alloc (.cells #[I r.num,I r.den] 81)
 have l1:=itoa_len r.num
 have l2:=itoa_len r.den
 have h1:=itoa_eq_1 (r.den:Int)
 have hft:frT r=if r.den=1 then Lib.itoa r.num else Lib.itoa r.num++47::Lib.itoa r.den:=rfl
 by_cases hd:r.den=1
 ·rw [if_pos hd] at hft
  rw [decide_eq_true (show (r.den:Int)=1 by omega)] at h1
  rw [hft]
  unfold I S at *
  generalize Lib.itoa r.num=ln at *
  generalize Lib.itoa r.den=ld at *
  clear hd hft
  go_enter Tryz.func154,Tryz.ntmps154
  go_wp2_with fail
  go_ret
  exact ⟨rfl,hX⟩
 ·rw [if_neg hd] at hft
  rw [decide_eq_false (show ¬ (r.den:Int)=1 by omega)] at h1
  rw [hft]
  unfold I S at *
  generalize Lib.itoa r.num=ln at *
  generalize Lib.itoa r.den=ld at *
  have l3:ln.length≤1001:=by omega
  have l4:ld.length≤1001:=by omega
  clear hd hft l1 l2 hr
  go_enter Tryz.func154,Tryz.ntmps154
  go_wp2_with fail
  go_ret
  exact ⟨ret_val (congrArg Value.string (by
   show (⟨ln.toArray⟩:ByteArray)++⟨[47].toArray⟩++⟨ld.toArray⟩=_
   rw [ba_app,ba_app,List.append_assoc]; rfl)),hX⟩
theorem number13_any {n:Int} (hn : -9223372036854775808≤n∧n≤9223372036854775807) {w:World} (hL:Laid w) :
  Calls Tryz.prog 153 #[.int .i64 n] w fun e w'=>e = .returned (RV (n:Rat))∧Ext w w':=by
 have ho:=Lib.hid (fun W (hW:Ext w W)=>wholeOf_any hn.1 hn.2 (hL.ext hW))
 have hN:=two_alloc w 81 (.string ⟨#[]⟩) (.string ⟨#[]⟩)
 have hX:Ext w (w.alloc (.cells #[.string ⟨#[]⟩,.string ⟨#[]⟩] 81)):=(Ext.refl w).alloc _
 have hv:RV (n:Rat) = .agg #[I n,.string ⟨#[49]⟩]:=by
  show Value.agg #[I ((n:Rat)).num,I (((n:Rat)).den:Int)]=_
  rw [show ((n:Rat)).num=n by simp,show ((((n:Rat)).den:Nat):Int)=1 by simp]
  unfold I S; rw [itoa_one]
 rw [hv]
 clear hL hn hv
 go_enter Tryz.func153,Tryz.ntmps153
 go_wp2_with fail
 refine (ho.out _ hX).mono ?_
 rintro e W ⟨rfl,hE⟩
 have e1:=hX.trans hE
 obtain ⟨y0,y1,f0,f1,r0,r1,hF9⟩:=two_end e1 (Nat.le_refl _) (hN.ext hE) (I n) (.string ⟨#[49]⟩)
 clear hN hX hE e1
 go_wp2_with fail
 refine bodyPost_ret (v := .agg #[I n,.string ⟨#[49]⟩]) (by simp [results,Tryz.results153,go_sem,r0,r1]) rfl ⟨rfl,hF9.out⟩
def StrO (B:Nat) (w:World) (v:Value) (xs:List ByteArray):Prop:=w.ownsRow B 9 1 v xs.length (xs.map .string)
theorem StrO.nil (B:Nat) (w:World):StrO B w (.slice none 0 0) []:=⟨rfl,.inl ⟨rfl,rfl⟩⟩
theorem StrO.ext {B:Nat} {w w':World} {v:Value} {xs:List ByteArray} (h:StrO B w v xs) (he:Ext w w'):StrO B w' v xs:=ownsRow_ext h he
theorem StrO.mono {B B':Nat} {w:World} {v:Value} {xs:List ByteArray} (h:StrO B w v xs) (hB:B'≤B):StrO B' w v xs:=ownsRow_mono h hB
theorem StrO.shape {B:Nat} {w:World} {v:Value} {xs:List ByteArray} (h:StrO B w v xs) (h0:0<xs.length) : ∃ g cap,v=slv g xs.length cap∧xs.length≤cap∧g<w.heap.size ∧ ∀ (j:Nat) x,xs[j]? = some x→w.cell? ⟨g,0+j,none⟩=some (.string x):=by
 have hl:=World.ownsRow.lt h
 rcases h.2 with ⟨_,he⟩ | ⟨g,cap,cur,rfl,hb,hg,hn,hm,hs,ht⟩
 ·rw [he] at h0; cases h0
 ·refine ⟨g,cap,rfl,hn,(hl g rfl).2,fun j x hj => ?_⟩
  have hj2:j<xs.length:=(List.getElem?_eq_some_iff.1 hj).1
  have:=World.ownsRow.cellAt h j (by omega)
  rw [Nat.zero_add,this,List.getElem?_map,hj]; rfl
theorem Tryz.infoByt:(Tryz.prog.info? 9).map (fun i=>(i.zero,i.size,i.bytes))=some (some (.string ⟨#[]⟩),1,16):=by kernel_rfl
theorem one_byt (z:ByteArray) : ∀ u∈[Value.string z],u.oneCell'=true:=fun u hu=>by
 simp only [List.mem_cons,List.not_mem_nil,or_false] at hu
 subst hu; rfl
section
variable {w:World} {ops:Array Oper} {rest:List Oper} {o:Oper} {a:Act} {Q:Exit→Act→World→Prop}
theorem app_str (hgd:o.guard=none) (s x:Operand) (t:TypeId) (ht:Tryz.prog.underlying t=some (.slice 9)) (ho:o.op = .call { callee := .builtin .append,args := #[s,x],argTypes := #[t,t] })
  {B:Nat} {v:Value} {r:List ByteArray} (hs:a.eval s=v) (hown:StrO B w v r) {b:Nat} {z:ByteArray} (hx:a.eval x = .slice (some ⟨b,0,none⟩) 1 1) (hc:w.cell? ⟨b,0,none⟩=some (.string z)) (hl:r.length≤1000000000) (hB:B≤w.heap.size)
  (h : ∀ g cap w',StrO B w' (slv g (r.length+1) cap) (r++[z])→Below B w w'→w.grownBy w' v.ownBlock→wpList Tryz.prog ops Q rest (a.put o.dst (slv g (r.length+1) cap)) w'):wpList Tryz.prog ops Q (o::rest) a w:=by
 obtain ⟨i0,hi,hz0,hz1,hz2⟩:=info_parts Tryz.infoByt
 refine wpList_append_lies w hgd s x t ho B 9 i0 _ 1 16 ht hi hz0 hz1 hz2 rfl (by omega) v r.length (r.map Value.string) hs hown ⟨b,0,none⟩ 1 1 [.string z] hx rfl ?_ (one_byt z) (by omega) (by unfold maxLen; omega) (by omega) hB w.heap.size rfl ?_
 ·intro j u hj
  have:j=0:=by have:=(List.getElem?_eq_some_iff.1 hj).1; simp at this; omega
  subst this
  simp only [List.getElem?_cons_zero,Option.some.injEq] at hj
  subst hj
  simpa [Addr.add_lit] using hc
 ·intro g cap w' h1 h2 h3 h4
  refine h g cap w' ?_ (Below.grown (Below.refl _ _) h2 hB (fun q hq=>(World.ownsRow.lt hown q hq).1)) h2
  unfold StrO
  rw [List.map_append,List.length_append]; exact h1
end
def tmX (p:Int) (r:Rat):List UInt8:=if r=1 then Lib.itoa p else if r.den=1∧0<r.num then Lib.itoa p++94::frT r else Lib.itoa p++94::40::(frT r++[41])
def szX (P:List Int) (l:List Rat):Nat→List ByteArray
 | 0=>[]
 | k+1=>szX P l k++(if l.getD k 0=0 then [] else [⟨(tmX (P.getD k 0) (l.getD k 0)).toArray⟩])
theorem szX_le (P:List Int) (l:List Rat) : ∀ k,(szX P l k).length≤k
 | 0=>Nat.le_refl _
 | k+1=>by
  rw [szX,List.length_append]
  have:=szX_le P l k
  split <;> simp <;> omega
theorem frT_len {r:Rat} (h:nd r.num≤30∧nd r.den≤30):(frT r).length≤63:=by
 have l1:=itoa_len r.num
 have l2:=itoa_len (r.den:Int)
 unfold frT
 split
 ·omega
 ·rw [List.length_append,List.length_cons]; omega
theorem tmX_len {p:Int} {r:Rat} (h:nd r.num≤30∧nd r.den≤30) (hp:(Lib.itoa p).length≤21):(tmX p r).length≤90:=by
 have:=frT_len h
 unfold tmX
 split
 ·omega
 ·split <;> simp <;> omega
theorem szX_len {P:List Int} {l:List Rat} (h:ShQ l) (hp : ∀ k,(Lib.itoa (P.getD k 0)).length≤21) : ∀ k,∀ x∈szX P l k,x.data.toList.length≤90
 | 0,x,hx=>by simp [szX] at hx
 | k+1,x,hx=>by
  rw [szX] at hx
  rcases List.mem_append.1 hx with h1 | h1
  ·exact szX_len h hp k x h1
  ·split at h1
   ·simp at h1
   ·rename_i h0
    simp only [List.mem_cons,List.not_mem_nil,or_false] at h1
    subst h1
    show (tmX (P.getD k 0) (l.getD k 0)).toArray.toList.length≤90
    rw [List.toList_toArray]
    refine tmX_len ?_ (hp k)
    rw [List.getD_eq_getElem?_getD]
    by_cases hk:k<l.length
    ·rw [List.getElem?_eq_getElem hk]; exact h _ (List.getElem_mem hk)
    ·rw [List.getElem?_eq_none (by omega)]
     exact ⟨by show nd (0:Rat).num≤30; rw [show (0:Rat).num=0 from rfl,nd_0]; omega,by show nd ((0:Rat).den:Int)≤30; rw [show (((0:Rat).den:Nat):Int)=1 from rfl,nd_1]; omega⟩
theorem joinTailA_le {b:Nat} (s:List UInt8) : ∀ {r:List (List UInt8)},(∀ x∈r,x.length≤b)→(Lib.joinTail s r).length≤(b+s.length)*r.length
 | [],_=>by simp [Lib.joinTail]
 | x::t,h=>by
  have h1:=joinTailA_le s (r:=t) (fun y hy=>h y (by simp [hy]))
  have h2:=h x (by simp)
  have e:Lib.joinTail s (x::t)=(s++x)++Lib.joinTail s t:=by simp [Lib.joinTail]
  rw [e,List.length_append,List.length_append]
  simp only [List.length_cons,Nat.mul_succ]
  omega
theorem joinA_le {b:Nat} (s:List UInt8) {r:List (List UInt8)} (h : ∀ x∈r,x.length≤b):(Lib.join r s).length≤(b+s.length)*r.length:=by
 cases r with
 | nil=>simp [Lib.join_nil]
 | cons x t =>
  rw [Lib.join_cons,List.length_append]
  simp only [List.length_cons,Nat.mul_succ]
  have h1:=joinTailA_le s (r:=t) (fun y hy=>h y (by simp [hy]))
  have h2:=h x (by simp)
  omega
def joinA (xs:List ByteArray) (s:List UInt8):ByteArray:=⟨(Lib.join (xs.map (·.data.toList)) s).toArray⟩
theorem joinA_any {w:World} {B L g cap:Nat} {xs:List ByteArray} {s:List UInt8} (h:StrO B w (slv g L cap) xs) (hL:xs.length=L) (h0:0<L) (h1:L≤1000) (hj:(Lib.join (xs.map (·.data.toList)) s).length≤1000000) :
  Calls Tryz.prog 96 #[slv g L cap,.string ⟨s.toArray⟩] w fun e w'=>e = .returned (.string (joinA xs s))∧Ext w w':=by
 subst hL
 obtain ⟨g',cap',e,hc,hg,hx⟩:=h.shape h0
 injection e with e1 e2 e3
 injection e1 with e1
 injection e1 with e1
 subst e1 e3
 have:=Tryz.strings_Join g 0 cap xs ⟨s.toArray⟩ w hx hg (by omega) hc (by show (Lib.join _ s.toArray.toList).length≤_; rw [List.toList_toArray]; omega)
 rw [show ((⟨s.toArray⟩:ByteArray).data.toList)=s from List.toList_toArray] at this
 exact this
theorem StrO.sh {w:World} {B L:Nat} {v:Value} {xs:List ByteArray} (h:StrO B w v xs) (hL:xs.length=L) (h0:0<L) : ∃ g cap,v=slv g L cap:=by
 subst hL
 obtain ⟨g,cap,e,_⟩:=h.shape h0
 exact ⟨g,cap,e⟩
theorem StrO.slice {B:Nat} {w:World} {v:Value} {xs:List ByteArray} (h:StrO B w v xs) : ∃ a c,v = .slice a xs.length c:=by
 rcases h.2 with ⟨rfl,h0⟩ | ⟨g,cap,cur,rfl,_⟩
 ·exact ⟨_,_,by rw [h0]⟩
 ·exact ⟨_,_,rfl⟩
def szTx (P:List Int) (l:List Rat):ByteArray:=if szX P l l.length=[] then ⟨#[49]⟩ else joinA (szX P l l.length) [32]
end Go.Proofs.YtjnpakablgommaaGreatDoor
