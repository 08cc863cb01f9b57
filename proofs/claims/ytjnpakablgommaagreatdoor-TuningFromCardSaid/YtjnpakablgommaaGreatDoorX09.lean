/- Part 9, beside the shared parts, of the proof of the claim: contracts and plain laws; no condition. -/
import Derived.Test.YtjnpakablgommaaGreatDoorX08
import Derived.BigQuiet
import Derived.Lib.Join
set_option maxRecDepth 100000
namespace Go.Proofs.YtjnpakablgommaaGreatDoor
open Go.RowKit Go.Sort
set_option maxHeartbeats 4000000 in
theorem Same24_any {w:World} {va vb:Value} {la lb:List Rat} (ha:SzR w va la) (hb:SzR w vb lb) (hl:la.length≤1000000) :
  Calls Tryz.prog 45 #[va,vb] w fun e w'=>e = .returned (.bool (decide (la=lb)))∧Ext w w':=by
 obtain ⟨sa,ga,oa,ca,rfl,hca,haa,hra⟩:=ha
 obtain ⟨sb,gb,ob,cb,rfl,hcb,hbb,hrb⟩:=hb
 have Haa:=Lib.hid haa
 have Hbb:=Lib.hid hbb
 have Hra:=Lib.hid hra
 have Hrb:=Lib.hid hrb
 have Hno:=Lib.hid (fun (h:la≠lb)=>decide_eq_false h)
 have Hyes:=Lib.hid (fun (hl:la.length=lb.length) (h : ∀ i (h:i<la.length) (h':i<lb.length),la[i]=lb[i])=>decide_eq_true (show la=lb from List.ext_getElem hl h))
 obtain ⟨n,hn⟩ : ∃ n,n=la.length:=⟨_,rfl⟩
 obtain ⟨m,hm⟩ : ∃ m,m=lb.length:=⟨_,rfl⟩
 have Hn:=Lib.hid hn
 have Hm:=Lib.hid hm
 rw [← hn] at hl ⊢
 rw [← hm]
 generalize decide (la=lb)=q at *
 clear haa hbb hra hrb hn hm hca hcb
 by_cases hnm:n=m
 ·subst hnm
  go_enter Tryz.func45,Tryz.ntmps45
  go_wp2_with fail
  go_loopw [5] (fun iv wr => ∃ i:Nat,i≤n∧iv = .int .i64 i∧Hid (∀ t (h:t<la.length) (h':t<lb.length),t<i→la[t]=lb[t])∧Ext w wr) (fun iv _=>n-(intOf iv).toNat)
  case atStart=>exact ⟨0,by omega,by go_num,Lib.hid (fun t _ _ h=>by omega),Ext.refl _⟩
  case round =>
   obtain ⟨i,hi,rfl,HA,hE⟩:=hrel
   generalize wr=X at *
   by_cases hlt:i<n
   ·have hii:(i:Int)<(n:Int):=by omega
    have hia:i<la.length:=by rw [← Hn.out]; exact hlt
    have hib:i<lb.length:=by rw [← Hm.out]; exact hlt
    obtain rfl:=Haa.out (by omega)
    obtain rfl:=Hbb.out (by omega)
    obtain ⟨a0,a1⟩:=Hra.out i hia
    obtain ⟨b0,b1⟩:=Hrb.out i hib
    replace a0:=hE.cell a0
    replace a1:=hE.cell a1
    replace b0:=hE.cell b0
    replace b1:=hE.cell b1
    have Hq:=Lib.hid (fun (h:la[i]≠lb[i])=>Hno.out (fun h2=>h (by simp only [h2])))
    have HA':=Lib.hid (fun (h:la[i]=lb[i]) t (ht:t<la.length) (ht':t<lb.length) (hti:t<i+1)=>show la[t]=lb[t] by
     by_cases e:t=i
     ·subst e; exact h
     ·exact HA.out t ht ht' (by omega))
    obtain ⟨x,hx⟩ : ∃ x,x=la[i]:=⟨_,rfl⟩
    obtain ⟨y,hy⟩ : ∃ y,y=lb[i]:=⟨_,rfl⟩
    rw [← hx] at a0 a1 Hq HA'
    rw [← hy] at b0 b1 Hq HA'
    clear hx hy HA hlt hia hib
    have hqd : ∀ u v:Int,(Lib.itoa u==Lib.itoa v)=decide (u=v):=fun u v=>by
     by_cases h:u=v
     ·subst h; simp
     ·rw [decide_eq_false h,beq_eq_false_iff_ne]; exact fun hc=>h (itoa_inj hc)
    have k1:=hqd x.num y.num
    have k2:=hqd x.den y.den
    by_cases hxy:x=y
    ·subst hxy
     have HA:=Lib.hid (HA'.out rfl)
     clear HA' Hq k1 k2 hqd
     go_wp2_with fail
     go_quiet (fail)
     have hE:=hE.drewN nq
     go_wp2_with fail
     go_roundw
     case rel=>exact ⟨i+1,by omega,by go_num,HA,hE⟩
     case measure=>simp [intOf] <;> omega
    ·have Hq0:=Lib.hid (Hq.out hxy)
     have hd:x.num≠y.num∨(x.num=y.num∧(x.den:Int)≠(y.den:Int)):=by
      by_cases h1:x.num=y.num
      ·exact .inr ⟨h1,fun h2=>hxy (Rat.ext h1 (by omega))⟩
      ·exact .inl h1
     clear HA' Hq hxy hqd
     obtain ⟨la',hla⟩ : ∃ l,l=Lib.itoa x.num:=⟨_,rfl⟩
     obtain ⟨lb',hlb⟩ : ∃ l,l=Lib.itoa y.num:=⟨_,rfl⟩
     obtain ⟨da',hda⟩ : ∃ l,l=Lib.itoa x.den:=⟨_,rfl⟩
     obtain ⟨db',hdb⟩ : ∃ l,l=Lib.itoa y.den:=⟨_,rfl⟩
     unfold I S at a0 a1 b0 b1
     rw [← hla, ← hlb] at k1
     rw [← hda, ← hdb] at k2
     rw [← hla] at a0
     rw [← hda] at a1
     rw [← hlb] at b0
     rw [← hdb] at b1
     rcases hd with hd | ⟨hd,hd2⟩
     ·rw [decide_eq_false hd] at k1
      have k3:(la' != lb')=true:=by simp [bne,k1]
      clear hd k2 hla hlb hda hdb
      go_wp2_with fail
      go_quiet (fail)
      have hE:=hE.drewN nq
      go_wp2_with fail
      go_ret
      exact ⟨ret_val (congrArg Value.bool Hq0.out.symm),hE⟩
     ·rw [decide_eq_false hd2] at k2
      have k3:(da' != db')=true:=by simp [bne,k2]
      rw [decide_eq_true hd] at k1
      obtain rfl:la'=lb':=by simpa using k1
      clear hd k1 hd2 hla hlb hda hdb
      go_wp2_with fail
      go_quiet (fail)
      have hE:=hE.drewN nq
      go_wp2_with fail
      go_ret
      exact ⟨ret_val (congrArg Value.bool Hq0.out.symm),hE⟩
   ·obtain rfl:i=n:=by omega
    have hii : ¬ (i:Int)<(i:Int):=by omega
    have Hq:=Lib.hid (Hyes.out (by rw [← Hn.out, ← Hm.out]) (fun t h h'=>HA.out t h h' (by rw [Hn.out]; exact h)))
    clear hlt HA
    go_wp2_with fail
    go_ret
    exact ⟨ret_val (congrArg Value.bool Hq.out.symm),hE⟩
 ·have h1 : ¬ ((n:Int)=(m:Int)):=by omega
  have h2:((n:Int)==(m:Int))=false:=beq_eq_false_iff_ne.2 h1
  have h3:((n:Int) != (m:Int))=true:=by simp [bne,h2]
  have Hq:=Lib.hid (Hno.out (fun h=>hnm (by rw [Hn.out,Hm.out,h])))
  clear hnm
  go_enter Tryz.func45,Tryz.ntmps45
  go_wp2_with fail
  go_ret
  exact ⟨ret_val (congrArg Value.bool Hq.out.symm),Ext.refl _⟩
set_option maxHeartbeats 4000000 in
theorem same18_any {w:World} {P P':List Int} {C M C' M':Mx} {sp sp':Option Addr} {cp cp':Nat} {sc sc':Option Addr} {lc cc lc' cc':Nat} {sm sm':Option Addr} {lm cm lm' cm':Nat} (h:TmV w P C M M sp cp sc lc cc sm lm cm) (h':TmV w P' C' M' M' sp' cp' sc' lc' cc' sm' lm' cm'):Calls Tryz.prog 104 #[tmS P sp cp sc lc cc sm lm cm,tmS P' sp' cp' sc' lc' cc' sm' lm' cm'] w fun e w'=>e = .returned (.bool (decide (P=P'∧C=C'∧M=M')))∧Ext w w':=by
 have hp4:=h.ok.p4
 have hc4:=h.m4
 obtain ⟨psC,hIC⟩:=h.ok.kC.1
 obtain ⟨psM,hIM⟩:=h.ok.kM.1
 have hlC:=isH_len hIC
 have q1:=Lib.hid (fun W (hW:Ext w W)=>eqRows6_any (h.hP.ext hW) (h'.hP.ext hW) (by omega))
 have q2:=Lib.hid (fun W (hW:Ext w W)=>equal6_any (h.hC.ext hW) (h'.hC.ext hW) (by omega) (fun r hr=>by rw [hIC.rect r hr]; omega))
 have q3:=Lib.hid (fun W (hW:Ext w W)=>equal6_any (h.hM.ext hW) (h'.hM.ext hW) (by omega) (fun r hr=>by rw [hIM.rect r hr]; omega))
 have hX:=((Ext.refl w).alloc (.cells #[.slice sp P.length cp,.slice sc lc cc,.slice sm lm cm] 34)).alloc (.cells #[.slice sp' P'.length cp',.slice sc' lc' cc',.slice sm' lm' cm'] 34)
 have x0:((w.alloc (.cells #[.slice sp P.length cp,.slice sc lc cc,.slice sm lm cm] 34)).alloc (.cells #[.slice sp' P'.length cp',.slice sc' lc' cc',.slice sm' lm' cm'] 34)).cell? ⟨w.heap.size,0,none⟩=some (.slice sp P.length cp):=by go_simp
 have x1:((w.alloc (.cells #[.slice sp P.length cp,.slice sc lc cc,.slice sm lm cm] 34)).alloc (.cells #[.slice sp' P'.length cp',.slice sc' lc' cc',.slice sm' lm' cm'] 34)).cell? ⟨w.heap.size,1,none⟩=some (.slice sc lc cc):=by go_simp
 have x2:((w.alloc (.cells #[.slice sp P.length cp,.slice sc lc cc,.slice sm lm cm] 34)).alloc (.cells #[.slice sp' P'.length cp',.slice sc' lc' cc',.slice sm' lm' cm'] 34)).cell? ⟨w.heap.size,2,none⟩=some (.slice sm lm cm):=by go_simp
 have x3:((w.alloc (.cells #[.slice sp P.length cp,.slice sc lc cc,.slice sm lm cm] 34)).alloc (.cells #[.slice sp' P'.length cp',.slice sc' lc' cc',.slice sm' lm' cm'] 34)).cell? ⟨w.heap.size+1,0,none⟩=some (.slice sp' P'.length cp'):=by go_simp
 have x4:((w.alloc (.cells #[.slice sp P.length cp,.slice sc lc cc,.slice sm lm cm] 34)).alloc (.cells #[.slice sp' P'.length cp',.slice sc' lc' cc',.slice sm' lm' cm'] 34)).cell? ⟨w.heap.size+1,1,none⟩=some (.slice sc' lc' cc'):=by go_simp
 have x5:((w.alloc (.cells #[.slice sp P.length cp,.slice sc lc cc,.slice sm lm cm] 34)).alloc (.cells #[.slice sp' P'.length cp',.slice sc' lc' cc',.slice sm' lm' cm'] 34)).cell? ⟨w.heap.size+1,2,none⟩=some (.slice sm' lm' cm'):=by go_simp
 clear h h' hp4 hc4 hIC hIM hlC
 by_cases h1:P=P'
 ·by_cases h2:C=C'
  ·have hd:decide (P=P'∧C=C'∧M=M')=decide (M=M'):=by
    rw [decide_eq_decide]; exact ⟨fun h=>h.2.2,fun h=>⟨h1,h2,h⟩⟩
   rw [hd]
   rw [decide_eq_true h1] at q1
   rw [decide_eq_true h2] at q2
   generalize decide (M=M')=z at *
   clear hd h1 h2
   go_enter Tryz.func104,Tryz.ntmps104
   go_wp2_with fail
   refine (q1.out _ hX).mono ?_
   rintro e W1 ⟨rfl,hE1⟩
   have e1:=hX.trans hE1
   replace x1:=hE1.cell x1
   replace x2:=hE1.cell x2
   replace x4:=hE1.cell x4
   replace x5:=hE1.cell x5
   clear x0 x3
   go_wp2_with fail
   refine (q2.out _ e1).mono ?_
   rintro e W2 ⟨rfl,hE2⟩
   have e2:=e1.trans hE2
   replace x2:=hE2.cell x2
   replace x5:=hE2.cell x5
   clear x1 x4
   go_wp2_with fail
   refine (q3.out _ e2).mono ?_
   rintro e W3 ⟨rfl,hE3⟩
   have e3:=e2.trans hE3
   clear x2 x5
   go_wp2_with fail
   go_ret
   exact ⟨rfl,e3⟩
  ·rw [decide_eq_false (fun h=>h2 h.2.1)]
   rw [decide_eq_true h1] at q1
   rw [decide_eq_false h2] at q2
   clear h1 h2 q3
   go_enter Tryz.func104,Tryz.ntmps104
   go_wp2_with fail
   refine (q1.out _ hX).mono ?_
   rintro e W1 ⟨rfl,hE1⟩
   have e1:=hX.trans hE1
   replace x1:=hE1.cell x1
   replace x4:=hE1.cell x4
   clear x0 x3
   go_wp2_with fail
   refine (q2.out _ e1).mono ?_
   rintro e W2 ⟨rfl,hE2⟩
   have e2:=e1.trans hE2
   go_wp2_with fail
   go_ret
   exact ⟨rfl,e2⟩
 ·rw [decide_eq_false (fun h=>h1 h.1)]
  rw [decide_eq_false h1] at q1
  clear h1 q2 q3
  go_enter Tryz.func104,Tryz.ntmps104
  go_wp2_with fail
  refine (q1.out _ hX).mono ?_
  rintro e W1 ⟨rfl,hE1⟩
  have e1:=hX.trans hE1
  go_wp2_with fail
  go_ret
  exact ⟨rfl,e1⟩
theorem Same18_any {w:World} {P P':List Int} {C M C' M':Mx} {sp sp':Option Addr} {cp cp':Nat} {sc sc':Option Addr} {lc cc lc' cc':Nat} {sm sm':Option Addr} {lm cm lm' cm':Nat} (h:TmV w P C M M sp cp sc lc cc sm lm cm) (h':TmV w P' C' M' M' sp' cp' sc' lc' cc' sm' lm' cm'):Calls Tryz.prog 44 #[tmS P sp cp sc lc cc sm lm cm,tmS P' sp' cp' sc' lc' cc' sm' lm' cm'] w fun e w'=>e = .returned (.bool (decide (P=P'∧C=C'∧M=M')))∧Ext w w':=by
 have q1:=Lib.hid (fun W (hW:Ext w W)=>same18_any (h.ext hW) (h'.ext hW))
 generalize decide (P=P'∧C=C'∧M=M')=z at *
 have hX:=((Ext.refl w).alloc (.cells #[.slice sp P.length cp,.slice sc lc cc,.slice sm lm cm] 34)).alloc (.cells #[.slice sp' P'.length cp',.slice sc' lc' cc',.slice sm' lm' cm'] 34)
 clear h h'
 go_enter Tryz.func44,Tryz.ntmps44
 go_wp2_with fail
 refine (q1.out _ hX).mono ?_
 rintro e W1 ⟨rfl,hE1⟩
 go_wp2_with fail
 go_ret
 exact ⟨rfl,hX.trans hE1⟩
def frT (r:Rat):List UInt8:=if r.den=1 then Lib.itoa r.num else Lib.itoa r.num++47::Lib.itoa r.den
theorem ba_app (a b:List UInt8):(⟨a.toArray⟩:ByteArray)++⟨b.toArray⟩=⟨(a++b).toArray⟩:=ByteArray.ext (by simp)
theorem itoa_len (z:Int):(Lib.itoa z).length≤nd z+1:=by
 rcases Int.lt_or_le z 0 with h | h
 ·rw [itoa_neg h,List.length_cons,Lib.decDigits_length]; exact Nat.le_refl _
 ·rw [itoa_pos h,Lib.decDigits_length]; exact Nat.le_succ _
theorem fText_any {r:Rat} (hr:nd r.num≤1000∧nd r.den≤1000) (w:World):Calls Tryz.prog 154 #[RV r] w fun e w'=>e = .returned (S (frT r))∧Ext w w':=by
 show Calls Tryz.prog 154 #[.agg #[I r.num,I r.den]] w _
 have hX:=(Ext.refl w).alloc (.cells #[I r.num,I r.den] 81)
 have l1:=itoa_len r.num
 have l2:=itoa_len r.den
 have h1:=itoa_eq_1 (r.den:Int)
 have hft:frT r=if r.den=1 then Lib.itoa r.num else Lib.itoa r.num++47::Lib.itoa r.den:=rfl
 by_cases hd:r.den=1
 ·rw [if_pos hd] at hft
  rw [decide_eq_true (show (r.den:Int)=1 by omega)] at h1
  rw [hft]
  unfold I S at *
  generalize Lib.itoa r.num=ln at *
  generalize Lib.itoa r.den=ld at *
  clear hd hft
  go_enter Tryz.func154,Tryz.ntmps154
  go_wp2_with fail
  go_ret
  exact ⟨rfl,hX⟩
 ·rw [if_neg hd] at hft
  rw [decide_eq_false (show ¬ (r.den:Int)=1 by omega)] at h1
  rw [hft]
  unfold I S at *
  generalize Lib.itoa r.num=ln at *
  generalize Lib.itoa r.den=ld at *
  have l3:ln.length≤1001:=by omega
  have l4:ld.length≤1001:=by omega
  clear hd hft l1 l2 hr
  go_enter Tryz.func154,Tryz.ntmps154
  go_wp2_with fail
  go_ret
  exact ⟨ret_val (congrArg Value.string (by
   show (⟨ln.toArray⟩:ByteArray)++⟨[47].toArray⟩++⟨ld.toArray⟩=_
   rw [ba_app,ba_app,List.append_assoc]; rfl)),hX⟩
theorem number13_any {n:Int} (hn : -9223372036854775808≤n∧n≤9223372036854775807) {w:World} (hL:Laid w) :
  Calls Tryz.prog 153 #[.int .i64 n] w fun e w'=>e = .returned (RV (n:Rat))∧Ext w w':=by
 have ho:=Lib.hid (fun W (hW:Ext w W)=>wholeOf_any hn.1 hn.2 (hL.ext hW))
 have hN:=two_alloc w 81 (.string ⟨#[]⟩) (.string ⟨#[]⟩)
 have hX:Ext w (w.alloc (.cells #[.string ⟨#[]⟩,.string ⟨#[]⟩] 81)):=(Ext.refl w).alloc _
 have hv:RV (n:Rat) = .agg #[I n,.string ⟨#[49]⟩]:=by
  show Value.agg #[I ((n:Rat)).num,I (((n:Rat)).den:Int)]=_
  rw [show ((n:Rat)).num=n by simp,show ((((n:Rat)).den:Nat):Int)=1 by simp]
  unfold I S; rw [itoa_one]
 rw [hv]
 clear hL hn hv
 go_enter Tryz.func153,Tryz.ntmps153
 go_wp2_with fail
 refine (ho.out _ hX).mono ?_
 rintro e W ⟨rfl,hE⟩
 have e1:=hX.trans hE
 obtain ⟨y0,y1,f0,f1,r0,r1,hF9⟩:=two_end e1 (Nat.le_refl _) (hN.ext hE) (I n) (.string ⟨#[49]⟩)
 clear hN hX hE e1
 go_wp2_with fail
 refine bodyPost_ret (v := .agg #[I n,.string ⟨#[49]⟩]) (by simp [results,Tryz.results153,go_sem,r0,r1]) rfl ⟨rfl,hF9.out⟩
def StrO (B:Nat) (w:World) (v:Value) (xs:List ByteArray):Prop:=w.ownsRow B 9 1 v xs.length (xs.map .string)
theorem StrO.nil (B:Nat) (w:World):StrO B w (.slice none 0 0) []:=⟨rfl,.inl ⟨rfl,rfl⟩⟩
theorem StrO.ext {B:Nat} {w w':World} {v:Value} {xs:List ByteArray} (h:StrO B w v xs) (he:Ext w w'):StrO B w' v xs:=ownsRow_ext h he
theorem StrO.mono {B B':Nat} {w:World} {v:Value} {xs:List ByteArray} (h:StrO B w v xs) (hB:B'≤B):StrO B' w v xs:=ownsRow_mono h hB
theorem StrO.shape {B:Nat} {w:World} {v:Value} {xs:List ByteArray} (h:StrO B w v xs) (h0:0<xs.length) : ∃ g cap,v=slv g xs.length cap∧xs.length≤cap∧g<w.heap.size ∧ ∀ (j:Nat) x,xs[j]? = some x→w.cell? ⟨g,0+j,none⟩=some (.string x):=by
 have hl:=World.ownsRow.lt h
 rcases h.2 with ⟨_,he⟩ | ⟨g,cap,cur,rfl,hb,hg,hn,hm,hs,ht⟩
 ·rw [he] at h0; cases h0
 ·refine ⟨g,cap,rfl,hn,(hl g rfl).2,fun j x hj => ?_⟩
  have hj2:j<xs.length:=(List.getElem?_eq_some_iff.1 hj).1
  have:=World.ownsRow.cellAt h j (by omega)
  rw [Nat.zero_add,this,List.getElem?_map,hj]; rfl
theorem Tryz.infoByt:(Tryz.prog.info? 9).map (fun i=>(i.zero,i.size,i.bytes))=some (some (.string ⟨#[]⟩),1,16):=by kernel_rfl
theorem one_byt (z:ByteArray) : ∀ u∈[Value.string z],u.oneCell'=true:=fun u hu=>by
 simp only [List.mem_cons,List.not_mem_nil,or_false] at hu
 subst hu; rfl
section
variable {w:World} {ops:Array Oper} {rest:List Oper} {o:Oper} {a:Act} {Q:Exit→Act→World→Prop}
theorem app_str (hgd:o.guard=none) (s x:Operand) (t:TypeId) (ht:Tryz.prog.underlying t=some (.slice 9)) (ho:o.op = .call { callee := .builtin .append,args := #[s,x],argTypes := #[t,t] })
  {B:Nat} {v:Value} {r:List ByteArray} (hs:a.eval s=v) (hown:StrO B w v r) {b:Nat} {z:ByteArray} (hx:a.eval x = .slice (some ⟨b,0,none⟩) 1 1) (hc:w.cell? ⟨b,0,none⟩=some (.string z)) (hl:r.length≤1000000000) (hB:B≤w.heap.size)
  (h : ∀ g cap w',StrO B w' (slv g (r.length+1) cap) (r++[z])→Below B w w'→w.grownBy w' v.ownBlock→wpList Tryz.prog ops Q rest (a.put o.dst (slv g (r.length+1) cap)) w'):wpList Tryz.prog ops Q (o::rest) a w:=by
 obtain ⟨i0,hi,hz0,hz1,hz2⟩:=info_parts Tryz.infoByt
 refine wpList_append_lies w hgd s x t ho B 9 i0 _ 1 16 ht hi hz0 hz1 hz2 rfl (by omega) v r.length (r.map Value.string) hs hown ⟨b,0,none⟩ 1 1 [.string z] hx rfl ?_ (one_byt z) (by omega) (by unfold maxLen; omega) (by omega) hB w.heap.size rfl ?_
 ·intro j u hj
  have:j=0:=by have:=(List.getElem?_eq_some_iff.1 hj).1; simp at this; omega
  subst this
  simp only [List.getElem?_cons_zero,Option.some.injEq] at hj
  subst hj
  simpa [Addr.add_lit] using hc
 ·intro g cap w' h1 h2 h3 h4
  refine h g cap w' ?_ (Below.grown (Below.refl _ _) h2 hB (fun q hq=>(World.ownsRow.lt hown q hq).1)) h2
  unfold StrO
  rw [List.map_append,List.length_append]; exact h1
end
def tmX (p:Int) (r:Rat):List UInt8:=if r=1 then Lib.itoa p else if r.den=1∧0<r.num then Lib.itoa p++94::frT r else Lib.itoa p++94::40::(frT r++[41])
def szX (P:List Int) (l:List Rat):Nat→List ByteArray
 | 0=>[]
 | k+1=>szX P l k++(if l.getD k 0=0 then [] else [⟨(tmX (P.getD k 0) (l.getD k 0)).toArray⟩])
theorem szX_le (P:List Int) (l:List Rat) : ∀ k,(szX P l k).length≤k
 | 0=>Nat.le_refl _
 | k+1=>by
  rw [szX,List.length_append]
  have:=szX_le P l k
  split <;> simp <;> omega
theorem frT_len {r:Rat} (h:nd r.num≤30∧nd r.den≤30):(frT r).length≤63:=by
 have l1:=itoa_len r.num
 have l2:=itoa_len (r.den:Int)
 unfold frT
 split
 ·omega
 ·rw [List.length_append,List.length_cons]; omega
theorem tmX_len {p:Int} {r:Rat} (h:nd r.num≤30∧nd r.den≤30) (hp:(Lib.itoa p).length≤21):(tmX p r).length≤90:=by
 have:=frT_len h
 unfold tmX
 split
 ·omega
 ·split <;> simp <;> omega
theorem szX_len {P:List Int} {l:List Rat} (h:ShQ l) (hp : ∀ k,(Lib.itoa (P.getD k 0)).length≤21) : ∀ k,∀ x∈szX P l k,x.data.toList.length≤90
 | 0,x,hx=>by simp [szX] at hx
 | k+1,x,hx=>by
  rw [szX] at hx
  rcases List.mem_append.1 hx with h1 | h1
  ·exact szX_len h hp k x h1
  ·split at h1
   ·simp at h1
   ·rename_i h0
    simp only [List.mem_cons,List.not_mem_nil,or_false] at h1
    subst h1
    show (tmX (P.getD k 0) (l.getD k 0)).toArray.toList.length≤90
    rw [List.toList_toArray]
    refine tmX_len ?_ (hp k)
    rw [List.getD_eq_getElem?_getD]
    by_cases hk:k<l.length
    ·rw [List.getElem?_eq_getElem hk]; exact h _ (List.getElem_mem hk)
    ·rw [List.getElem?_eq_none (by omega)]
     exact ⟨by show nd (0:Rat).num≤30; rw [show (0:Rat).num=0 from rfl,nd_0]; omega,by show nd ((0:Rat).den:Int)≤30; rw [show (((0:Rat).den:Nat):Int)=1 from rfl,nd_1]; omega⟩
theorem joinTailA_le {b:Nat} (s:List UInt8) : ∀ {r:List (List UInt8)},(∀ x∈r,x.length≤b)→(Lib.joinTail s r).length≤(b+s.length)*r.length
 | [],_=>by simp [Lib.joinTail]
 | x::t,h=>by
  have h1:=joinTailA_le s (r:=t) (fun y hy=>h y (by simp [hy]))
  have h2:=h x (by simp)
  have e:Lib.joinTail s (x::t)=(s++x)++Lib.joinTail s t:=by simp [Lib.joinTail]
  rw [e,List.length_append,List.length_append]
  simp only [List.length_cons,Nat.mul_succ]
  omega
theorem joinA_le {b:Nat} (s:List UInt8) {r:List (List UInt8)} (h : ∀ x∈r,x.length≤b):(Lib.join r s).length≤(b+s.length)*r.length:=by
 cases r with
 | nil=>simp [Lib.join_nil]
 | cons x t =>
  rw [Lib.join_cons,List.length_append]
  simp only [List.length_cons,Nat.mul_succ]
  have h1:=joinTailA_le s (r:=t) (fun y hy=>h y (by simp [hy]))
  have h2:=h x (by simp)
  omega
def joinA (xs:List ByteArray) (s:List UInt8):ByteArray:=⟨(Lib.join (xs.map (·.data.toList)) s).toArray⟩
theorem joinA_any {w:World} {B L g cap:Nat} {xs:List ByteArray} {s:List UInt8} (h:StrO B w (slv g L cap) xs) (hL:xs.length=L) (h0:0<L) (h1:L≤1000) (hj:(Lib.join (xs.map (·.data.toList)) s).length≤1000000) :
  Calls Tryz.prog 96 #[slv g L cap,.string ⟨s.toArray⟩] w fun e w'=>e = .returned (.string (joinA xs s))∧Ext w w':=by
 subst hL
 obtain ⟨g',cap',e,hc,hg,hx⟩:=h.shape h0
 injection e with e1 e2 e3
 injection e1 with e1
 injection e1 with e1
 subst e1 e3
 have:=Tryz.strings_Join g 0 cap xs ⟨s.toArray⟩ w hx hg (by omega) hc (by show (Lib.join _ s.toArray.toList).length≤_; rw [List.toList_toArray]; omega)
 rw [show ((⟨s.toArray⟩:ByteArray).data.toList)=s from List.toList_toArray] at this
 exact this
theorem StrO.sh {w:World} {B L:Nat} {v:Value} {xs:List ByteArray} (h:StrO B w v xs) (hL:xs.length=L) (h0:0<L) : ∃ g cap,v=slv g L cap:=by
 subst hL
 obtain ⟨g,cap,e,_⟩:=h.shape h0
 exact ⟨g,cap,e⟩
theorem StrO.slice {B:Nat} {w:World} {v:Value} {xs:List ByteArray} (h:StrO B w v xs) : ∃ a c,v = .slice a xs.length c:=by
 rcases h.2 with ⟨rfl,h0⟩ | ⟨g,cap,cur,rfl,_⟩
 ·exact ⟨_,_,by rw [h0]⟩
 ·exact ⟨_,_,rfl⟩
def szTx (P:List Int) (l:List Rat):ByteArray:=if szX P l l.length=[] then ⟨#[49]⟩ else joinA (szX P l l.length) [32]
theorem number13_one {w:World} (hL:Laid w):Calls Tryz.prog 153 #[.int .i64 1] w fun e w'=>e = .returned (.agg #[.string ⟨#[49]⟩,.string ⟨#[49]⟩])∧Ext w w':=by
 have h:=number13_any (n:=1) (by omega) hL
 have hv:RV ((1:Int):Rat) = .agg #[.string ⟨#[49]⟩,.string ⟨#[49]⟩]:=by
  show Value.agg #[I (((1:Int):Rat)).num,I ((((1:Int):Rat)).den:Int)]=_
  rw [show (((1:Int):Rat)).num=1 from rfl,show (((((1:Int):Rat)).den:Nat):Int)=1 from rfl]
  unfold I S; rw [itoa_one]
 rw [hv] at h; exact h
theorem itoa_len64 {z:Int} (h:I64 z):(Lib.itoa z).length≤21:=by
 have h1:=itoa_len z
 have h2:nd z≤19:=nDigits_le (u:=z.natAbs) (k:=19) (by unfold I64 at h; omega) (by omega)
 omega
theorem rat_zero_num {r:Rat}:r=0↔r.num=0:=⟨fun h=>by rw [h]; rfl,fun h=>by
 have:=rat_parts r
 rw [h] at this
 grind⟩
theorem rat_one_iff {r:Rat}:r=1↔r.num=1∧r.den=1:=⟨fun h=>by rw [h]; exact ⟨rfl,rfl⟩,fun h=>Rat.ext h.1 h.2⟩
set_option maxHeartbeats 4000000 in
theorem szText_any {w:World} {pa:Option Addr} {np cp:Nat} {v:Value} {P:List Int} {l:List Rat} (hP:RowR w (.slice pa np cp) P) (hpc : ∀ W,Ext w W→Calls Tryz.prog 48 #[.slice pa np cp] W fun e w'=>e = .returned (.int .i64 0)∧Ext W w') (hs:SzR w v l) (hl:l.length=np) (hb:ShQ l) (h64 : ∀ z∈P,I64 z) (h1000:np≤1000) (hL:Laid w) :
  Calls Tryz.prog 95 #[.slice pa np cp,v] w fun e w'=>e = .returned (.tuple #[.string (szTx P l),.int .i64 0])∧Ext w w':=by
 have hck:=Lib.hid (szCheck_all (pa:=pa) (cp:=cp) hpc hs hl (shQ_nd hb (by omega)) (by omega) hL)
 rw [szE_sh hb] at hck
 obtain ⟨pa',gp,op,cp',ep,hpcap,hSp⟩:=hP
 injection ep with ep1 ep2 ep3
 subst ep1 ep3
 have HSp:=Lib.hid hSp
 have Hnp:=Lib.hid ep2
 obtain ⟨sa,gb,go,cap,rfl,hc,ha,hr⟩:=hs
 have Hr:=Lib.hid hr
 have Ha:=Lib.hid ha
 have Hb:=Lib.hid hb
 have H64:=Lib.hid h64
 have HL:=Lib.hid hL
 have Hl:=Lib.hid hl
 have Hle:=Lib.hid (szX_le P l)
 have Hlen:=Lib.hid (szX_len (P:=P) hb (fun k=>by
  rw [List.getD_eq_getElem?_getD]
  by_cases hk:k<P.length
  ·rw [List.getElem?_eq_getElem hk]; exact itoa_len64 (h64 _ (List.getElem_mem hk))
  ·rw [List.getElem?_eq_none (by omega)]; show (Lib.itoa 0).length≤21; rw [itoa_zero]; decide))
 have Htx:=Lib.hid (show szTx P l=if szX P l l.length=[] then ⟨#[49]⟩ else joinA (szX P l l.length) [32] from rfl)
 generalize szTx P l=tx at *
 rw [hl] at hck hc ⊢
 rw [hl] at Htx
 clear hr ha hb hL hl h64 hSp ep2 hpc hc hpcap
 go_enter Tryz.func95,Tryz.ntmps95
 go_wp2_with fail
 refine hck.out.mono ?_
 rintro e w0 ⟨rfl,hE0⟩
 clear hck
 go_wp2_with fail
 go_loopw [7,19] (fun u iv wr => ∃ i:Nat,i≤np∧iv = .int .i64 i∧Hid (StrO w.heap.size wr u (szX P l i))∧Ext w wr) (fun _ iv _=>np-(intOf iv).toNat)
 case atStart=>exact ⟨0,by omega,by go_num,Lib.hid (StrO.nil _ _),hE0⟩
 case round =>
  obtain ⟨i,hi,rfl,HV,hE⟩:=hrel
  generalize wr=X at *
  by_cases hlt:i<np
  ·have hii:(i:Int)<(np:Int):=by omega
   have hil:i<l.length:=by rw [Hl.out]; exact hlt
   have hip:i<P.length:=by rw [← Hnp.out]; exact hlt
   obtain rfl:=Ha.out (by omega)
   obtain rfl:=HSp.out.addr (by simp; omega)
   obtain ⟨k0,k1⟩:=Hr.out i hil
   have k2:=HSp.out.cell i (.int .i64 P[i]) (is_get hip)
   have y0:=hE.cell k0
   have y1:=hE.cell k1
   have y2:=hE.cell k2
   have hbr:=Hb.out l[i] (List.getElem_mem hil)
   have hp64:=H64.out P[i] (List.getElem_mem hip)
   have Hsn:Hid (szX P l (i+1)=szX P l i++(if l[i]=0 then [] else [⟨(tmX P[i] l[i]).toArray⟩])):=Lib.hid (by
    rw [szX,List.getD_eq_getElem?_getD,List.getElem?_eq_getElem hil,List.getD_eq_getElem?_getD,List.getElem?_eq_getElem hip]; rfl)
   obtain ⟨r,hr⟩ : ∃ r,r=l[i]:=⟨_,rfl⟩
   obtain ⟨p,hp⟩ : ∃ p,p=P[i]:=⟨_,rfl⟩
   rw [← hr] at y0 y1 hbr Hsn
   rw [← hp] at y2 hp64 Hsn
   have hit:=Lib.hid (fun W (hW:Ext X W)=>Itoa_any (n:=p) hp64.1 hp64.2 (HL.out.ext (hE.trans hW)))
   have hft:Hid (∀ W,Calls Tryz.prog 154 #[.agg #[I r.num,I r.den]] W fun e w'=>e = .returned (S (frT r))∧Ext W w'):=Lib.hid (fun W=>fText_any (r:=r) ⟨by omega,by omega⟩ W)
   have hsg:=Lib.hid (fun W=>Sign_any r.num W)
   have hn1:=Lib.hid (fun W (hW:Ext X W)=>number13_one (HL.out.ext (hE.trans hW)))
   have lf:=frT_len hbr
   have lp:=itoa_len64 hp64
   have dA:=(Ext.refl X).alloc (.cells #[I r.num,I r.den] 81)
   have hOn:=two_alloc X 81 (I r.num) (I r.den)
   have z0:=hOn.cell (j:=0) (by simp)
   have z1:=hOn.cell (j:=1) (by simp)
   simp only [List.getElem_cons_zero,List.getElem_cons_succ] at z0 z1
   have e0:=itoa_eq_zero r.num
   have e1:=itoa_eq_1 r.num
   have e2:=itoa_eq_1 (r.den:Int)
   have hXs:=hE.size
   have HXs:=Lib.hid hXs
   have hll:=Lib.hid (Hle.out i)
   have Htm:Hid (tmX p r=if r=1 then Lib.itoa p else if r.den=1∧0<r.num then Lib.itoa p++94::frT r else Lib.itoa p++94::40::(frT r++[41])):=Lib.hid rfl
   have Hz:=Lib.hid (rat_zero_num (r:=r))
   have H1:=Lib.hid (rat_one_iff (r:=r))
   clear k0 k1 k2 hbr hp64 hr hp hOn hil hip hXs
   unfold I S at y0 y1 z0 z1 hft hsg hit dA
   obtain ⟨zn,hzn⟩ : ∃ z,z=r.num:=⟨_,rfl⟩
   obtain ⟨zd,hzd⟩ : ∃ z,z=r.den:=⟨_,rfl⟩
   simp only [← hzn, ← hzd] at y0 y1 z0 z1 hft hsg hit e0 e1 e2 Htm H1 Hz dA
   generalize Lib.itoa zn=ln at *
   generalize Lib.itoa (zd:Int)=ld at *
   generalize frT r=ft at *
   generalize Lib.itoa p=tp at *
   generalize tmX p r=tm at *
   clear hzn hzd
   obtain ⟨b9,hb9⟩ : ∃ b,b=X.heap.size:=⟨_,rfl⟩
   have Hb9:=Lib.hid hb9
   have y3:=dA.cell y2
   rw [← hb9] at z0 z1
   have Hi1:=Lib.hid (fun (h:(i:Int)<np)=>show (i:Int)+1≤np by omega)
   clear hb9
   by_cases hz0:zn=0
   ·rw [decide_eq_true hz0] at e0
    have Hsn:=Lib.hid (show szX P l (i+1)=szX P l i by rw [Hsn.out,if_pos (Hz.out.2 hz0),List.append_nil])
    clear hz0 hft hsg hn1 e1 e2 Htm H1 Hz
    go_wp2_with fail
    rw [← Hb9.out]
    generalize X.alloc (.cells #[.string ⟨ln.toArray⟩,.string ⟨ld.toArray⟩] 81)=XA at *
    refine (hit.out _ dA).mono ?_
    rintro e XB ⟨rfl,hB⟩
    have eB:=dA.trans hB
    replace z0:=hB.cell z0
    replace z1:=hB.cell z1
    clear hit hB dA y0 y1 y2 y3
    go_wp2_with fail
    go_roundw
    case rel=>exact ⟨i+1,by omega,by go_num,Lib.hid (by rw [Hsn.out]; exact HV.out.ext eB),hE.trans eB⟩
    case measure=>simp [intOf] <;> omega
   ·rw [decide_eq_false hz0] at e0
    have Hsn:=Lib.hid (show szX P l (i+1)=szX P l i++[⟨tm.toArray⟩] by rw [Hsn.out,if_neg (fun h=>hz0 (Hz.out.1 h))])
    go_wp2_with fail
    rw [← Hb9.out]
    generalize X.alloc (.cells #[.string ⟨ln.toArray⟩,.string ⟨ld.toArray⟩] 81)=XA at *
    refine (hit.out _ dA).mono ?_
    rintro e XB ⟨rfl,hB⟩
    have eB:=dA.trans hB
    replace z0:=hB.cell z0
    replace z1:=hB.cell z1
    clear hit hB dA y0 y1 y2 y3
    by_cases hr1:zn=1∧zd=1
    ·obtain ⟨h1,h2⟩:=hr1
     rw [decide_eq_true h1] at e1
     rw [decide_eq_true (show (zd:Int)=1 by omega)] at e2
     obtain rfl:ln=[49]:=by simpa using e1
     obtain rfl:ld=[49]:=by simpa using e2
     have Htm:=Lib.hid (show tm=tp by rw [Htm.out,if_pos (H1.out.2 ⟨h1,h2⟩)])
     clear e0 e1 e2 h1 h2 H1 Hz hz0 hft hsg
     go_wp2_with fail
     have d0:Ext XB XB.drew:=(Ext.refl XB).drew
     refine wp_region_held_tail (S:=fun W=>Ext XB W) 3 (by kernel_rfl) (by simp) ?_
     intro inv
     generalize XB.drew=XC at *
     refine wpAnyLH_take (i:=0) (v := .agg #[.string ⟨#[49]⟩,.string ⟨#[49]⟩]) rfl (by kernel_rfl) (fun _ _ _ h=>h) (.inl ⟨by rfl,fun W hW=>by have q0:=hW.cell z0; have q1:=hW.cell z1; go_simp⟩) d0 inv ?_
     intro inv
     go_simp
     refine wpAnyLH_oneI (i:=1) rfl (by kernel_rfl) inv (fun inv K0 hK0 => ?_)
     go_simp
     refine (hn1.out _ (eB.trans d0)).mono ?_
     rintro e XD ⟨rfl,hG1⟩
     have d1:=d0.trans hG1
     refine hK0 _ _ d1 ?_
     clear hK0
     refine wpAnyLH_take (i:=2) (v := .bool true) rfl (by kernel_rfl) (fun _ _ _ h=>h) (.inl ⟨by rfl,fun W hW=>by go_simp⟩) d1 inv ?_
     intro inv
     go_simp
     refine wpAnyLH_end (by kernel_rfl) ?_
     replace z0:=d1.cell z0
     replace z1:=d1.cell z1
     have eD:=eB.trans d1
     clear inv d0 d1 hG1 hn1 eB
     have eW:Ext X XD:=eD
     generalize XD=W at *
     clear eD z0 z1
     have HVZ:=Lib.hid (HV.out.ext (eW.alloc (.cells #[Value.string (⟨tp.toArray⟩)] 9)))
     have hWs:w.heap.size≤W.heap.size:=by have:=HXs.out; have:=eW.size; omega
     go_wp2_with (at_builtin; refine app_str rfl _ _ 160 Tryz.underlying160 rfl (B:=w.heap.size) rfl HVZ.out (b:=W.heap.size) (z:=⟨tp.toArray⟩) rfl (by go_simp) (by have:=hll.out; omega) (by simp; omega) ?_; intro g9 cap9 w9 hO9 hB9 _; rw [show ((⟨tp.toArray⟩):ByteArray)=⟨tm.toArray⟩ from by rw [Htm.out]] at hO9; have HO9:=Lib.hid (show StrO w.heap.size w9 _ (szX P l (i+1)) by rw [Hsn.out]; exact hO9); have e9:=Below.trans (hE.trans (eW.alloc (.cells #[Value.string (⟨tp.toArray⟩)] 9))) hB9; clear hO9 hB9)
     go_wp2_with fail
     go_roundw
     case rel=>exact ⟨i+1,by omega,by go_num,HO9,e9⟩
     case measure=>simp [intOf] <;> omega
    ·have Htm:=Lib.hid (show tm=if zd=1∧0<zn then tp++94::ft else tp++94::40::(ft++[41]) by rw [Htm.out,if_neg (fun h=>hr1 (H1.out.1 h))])
     clear H1 Hz
     by_cases hd1:zd=1
     ·rw [decide_eq_true (show (zd:Int)=1 by omega)] at e2
      rw [decide_eq_false (fun h=>hr1 ⟨h,hd1⟩)] at e1
      obtain rfl:ld=[49]:=by simpa using e2
      have nl : ¬ ln=[49]:=by simpa using e1
      clear e1 e2 hr1
      go_wp2_with fail
      have d0:Ext XB XB.drew:=(Ext.refl XB).drew
      refine wp_region_held_tail (S:=fun W=>Ext XB W) 3 (by kernel_rfl) (by simp) ?_
      intro inv
      generalize XB.drew=XC at *
      refine wpAnyLH_take (i:=0) (v := .agg #[.string ⟨ln.toArray⟩,.string ⟨#[49]⟩]) rfl (by kernel_rfl) (fun _ _ _ h=>h) (.inl ⟨by rfl,fun W hW=>by have q0:=hW.cell z0; have q1:=hW.cell z1; go_simp⟩) d0 inv ?_
      intro inv
      go_simp
      refine wpAnyLH_oneI (i:=1) rfl (by kernel_rfl) inv (fun inv K0 hK0 => ?_)
      go_simp
      refine (hn1.out _ (eB.trans d0)).mono ?_
      rintro e XD ⟨rfl,hG1⟩
      have d1:=d0.trans hG1
      refine hK0 _ _ d1 ?_
      clear hK0
      refine wpAnyLH_take (i:=2) (v := .bool false) rfl (by kernel_rfl) (fun _ _ _ h=>h) (.inl ⟨by rfl,fun W hW=>by go_simp⟩) d1 inv ?_
      intro inv
      go_simp
      refine wpAnyLH_end (by kernel_rfl) ?_
      replace z0:=d1.cell z0
      replace z1:=d1.cell z1
      have eD:=eB.trans d1
      clear inv d0 d1 hG1 hn1 eB
      by_cases hs:0<zn
      ·have Htm:=Lib.hid (show tm=tp++94::ft by rw [Htm.out,if_pos ⟨hd1,hs⟩])
       rw [Int.sign_eq_one_of_pos hs] at hsg
       clear hs hd1 hz0
       go_wp2_with fail
       refine (hsg.out _).mono ?_
       rintro e XE ⟨rfl,hE3⟩
       replace z0:=hE3.cell z0
       replace z1:=hE3.cell z1
       replace eD:=eD.trans hE3
       clear hsg hE3
       go_wp2_with fail
       refine (hft.out _).mono ?_
       rintro e W ⟨rfl,hW⟩
       have eW:=eD.trans hW
       clear hft hW z0 z1 eD
       have HVZ:=Lib.hid (HV.out.ext (eW.alloc (.cells #[Value.string ((⟨tp.toArray⟩:ByteArray)++((⟨#[94]⟩:ByteArray)++(⟨ft.toArray⟩:ByteArray)))] 9)))
       have hWs:w.heap.size≤W.heap.size:=by have:=HXs.out; have:=eW.size; omega
       go_wp2_with (at_builtin; refine app_str rfl _ _ 160 Tryz.underlying160 rfl (B:=w.heap.size) rfl HVZ.out (b:=W.heap.size) (z:=(⟨tp.toArray⟩:ByteArray)++((⟨#[94]⟩:ByteArray)++(⟨ft.toArray⟩:ByteArray))) rfl (by go_simp) (by have:=hll.out; omega) (by simp; omega) ?_; intro g9 cap9 w9 hO9 hB9 _; rw [show (((⟨tp.toArray⟩:ByteArray)++((⟨#[94]⟩:ByteArray)++(⟨ft.toArray⟩:ByteArray))):ByteArray)=⟨tm.toArray⟩ from (by show (⟨tp.toArray⟩:ByteArray)++(⟨[94].toArray⟩++⟨ft.toArray⟩)=_; rw [ba_app,ba_app,Htm.out]; rfl)] at hO9; have HO9:=Lib.hid (show StrO w.heap.size w9 _ (szX P l (i+1)) by rw [Hsn.out]; exact hO9); have e9:=Below.trans (hE.trans (eW.alloc (.cells #[Value.string ((⟨tp.toArray⟩:ByteArray)++((⟨#[94]⟩:ByteArray)++(⟨ft.toArray⟩:ByteArray)))] 9))) hB9; clear hO9 hB9)
       go_wp2_with fail
       go_roundw
       case rel=>exact ⟨i+1,by omega,by go_num,HO9,e9⟩
       case measure=>simp [intOf] <;> omega
      ·have Htm:=Lib.hid (show tm=tp++94::40::(ft++[41]) by rw [Htm.out,if_neg (fun h=>hs h.2)])
       rw [Int.sign_eq_neg_one_of_neg (show zn<0 by omega)] at hsg
       clear hs hd1 hz0
       go_wp2_with fail
       refine (hsg.out _).mono ?_
       rintro e XE ⟨rfl,hE3⟩
       replace z0:=hE3.cell z0
       replace z1:=hE3.cell z1
       replace eD:=eD.trans hE3
       clear hsg hE3
       go_wp2_with fail
       refine (hft.out _).mono ?_
       rintro e W ⟨rfl,hW⟩
       have eW:=eD.trans hW
       clear hft hW z0 z1 eD
       have HVZ:=Lib.hid (HV.out.ext (eW.alloc (.cells #[Value.string ((⟨tp.toArray⟩:ByteArray)++((⟨#[94,40]⟩:ByteArray)++(⟨ft.toArray⟩:ByteArray)++(⟨#[41]⟩:ByteArray)))] 9)))
       have hWs:w.heap.size≤W.heap.size:=by have:=HXs.out; have:=eW.size; omega
       go_wp2_with (at_builtin; refine app_str rfl _ _ 160 Tryz.underlying160 rfl (B:=w.heap.size) rfl HVZ.out (b:=W.heap.size) (z:=(⟨tp.toArray⟩:ByteArray)++((⟨#[94,40]⟩:ByteArray)++(⟨ft.toArray⟩:ByteArray)++(⟨#[41]⟩:ByteArray))) rfl (by go_simp) (by have:=hll.out; omega) (by simp; omega) ?_; intro g9 cap9 w9 hO9 hB9 _; rw [show (((⟨tp.toArray⟩:ByteArray)++((⟨#[94,40]⟩:ByteArray)++(⟨ft.toArray⟩:ByteArray)++(⟨#[41]⟩:ByteArray))):ByteArray)=⟨tm.toArray⟩ from (by show (⟨tp.toArray⟩:ByteArray)++(⟨[94,40].toArray⟩++⟨ft.toArray⟩++⟨[41].toArray⟩)=_; rw [ba_app,ba_app,ba_app,Htm.out,List.append_assoc]; rfl)] at hO9; have HO9:=Lib.hid (show StrO w.heap.size w9 _ (szX P l (i+1)) by rw [Hsn.out]; exact hO9); have e9:=Below.trans (hE.trans (eW.alloc (.cells #[Value.string ((⟨tp.toArray⟩:ByteArray)++((⟨#[94,40]⟩:ByteArray)++(⟨ft.toArray⟩:ByteArray)++(⟨#[41]⟩:ByteArray)))] 9))) hB9; clear hO9 hB9)
       go_wp2_with fail
       go_roundw
       case rel=>exact ⟨i+1,by omega,by go_num,HO9,e9⟩
       case measure=>simp [intOf] <;> omega
     ·rw [decide_eq_false (show ¬ (zd:Int)=1 by omega)] at e2
      have nd : ¬ ld=[49]:=by simpa using e2
      have Htm:=Lib.hid (show tm=tp++94::40::(ft++[41]) by rw [Htm.out,if_neg (fun h=>hd1 h.1)])
      clear e1 hr1 hd1 hz0 hsg
      go_wp2_with fail
      have d0:Ext XB XB.drew:=(Ext.refl XB).drew
      refine wp_region_held_tail (S:=fun W=>Ext XB W) 3 (by kernel_rfl) (by simp) ?_
      intro inv
      generalize XB.drew=XC at *
      refine wpAnyLH_take (i:=0) (v := .agg #[.string ⟨ln.toArray⟩,.string ⟨ld.toArray⟩]) rfl (by kernel_rfl) (fun _ _ _ h=>h) (.inl ⟨by rfl,fun W hW=>by have q0:=hW.cell z0; have q1:=hW.cell z1; go_simp⟩) d0 inv ?_
      intro inv
      go_simp
      refine wpAnyLH_oneI (i:=1) rfl (by kernel_rfl) inv (fun inv K0 hK0 => ?_)
      go_simp
      refine (hn1.out _ (eB.trans d0)).mono ?_
      rintro e XD ⟨rfl,hG1⟩
      have d1:=d0.trans hG1
      refine hK0 _ _ d1 ?_
      clear hK0
      refine wpAnyLH_take (i:=2) (v := .bool false) rfl (by kernel_rfl) (fun _ _ _ h=>h) (.inl ⟨by rfl,fun W hW=>by by_cases hl:ln=[49] <;> go_simp⟩) d1 inv ?_
      intro inv
      go_simp
      refine wpAnyLH_end (by kernel_rfl) ?_
      replace z0:=d1.cell z0
      replace z1:=d1.cell z1
      have eD:=eB.trans d1
      clear inv d0 d1 hG1 hn1 eB
      go_wp2_with fail
      refine (hft.out _).mono ?_
      rintro e W ⟨rfl,hW⟩
      have eW:=eD.trans hW
      clear hft hW z0 z1 eD
      have HVZ:=Lib.hid (HV.out.ext (eW.alloc (.cells #[Value.string ((⟨tp.toArray⟩:ByteArray)++((⟨#[94,40]⟩:ByteArray)++(⟨ft.toArray⟩:ByteArray)++(⟨#[41]⟩:ByteArray)))] 9)))
      have hWs:w.heap.size≤W.heap.size:=by have:=HXs.out; have:=eW.size; omega
      go_wp2_with (at_builtin; refine app_str rfl _ _ 160 Tryz.underlying160 rfl (B:=w.heap.size) rfl HVZ.out (b:=W.heap.size) (z:=(⟨tp.toArray⟩:ByteArray)++((⟨#[94,40]⟩:ByteArray)++(⟨ft.toArray⟩:ByteArray)++(⟨#[41]⟩:ByteArray))) rfl (by go_simp) (by have:=hll.out; omega) (by simp; omega) ?_; intro g9 cap9 w9 hO9 hB9 _; rw [show (((⟨tp.toArray⟩:ByteArray)++((⟨#[94,40]⟩:ByteArray)++(⟨ft.toArray⟩:ByteArray)++(⟨#[41]⟩:ByteArray))):ByteArray)=⟨tm.toArray⟩ from (by show (⟨tp.toArray⟩:ByteArray)++(⟨[94,40].toArray⟩++⟨ft.toArray⟩++⟨[41].toArray⟩)=_; rw [ba_app,ba_app,ba_app,Htm.out,List.append_assoc]; rfl)] at hO9; have HO9:=Lib.hid (show StrO w.heap.size w9 _ (szX P l (i+1)) by rw [Hsn.out]; exact hO9); have e9:=Below.trans (hE.trans (eW.alloc (.cells #[Value.string ((⟨tp.toArray⟩:ByteArray)++((⟨#[94,40]⟩:ByteArray)++(⟨ft.toArray⟩:ByteArray)++(⟨#[41]⟩:ByteArray)))] 9))) hB9; clear hO9 hB9)
      go_wp2_with fail
      go_roundw
      case rel=>exact ⟨i+1,by omega,by go_num,HO9,e9⟩
      case measure=>simp [intOf] <;> omega
  ·obtain rfl:i=np:=by omega
   have hii : ¬ (i:Int)<(i:Int):=by omega
   have hxl:=Hle.out i
   obtain ⟨xs,hxs⟩ : ∃ xs,xs=szX P l i:=⟨_,rfl⟩
   have hlen:=Hlen.out i
   rw [← hxs] at HV Htx hxl hlen
   clear hxs hlt Hle Hlen
   by_cases h0:xs=[]
   ·rw [if_pos h0] at Htx
    subst h0
    obtain ⟨ua,uc,rfl⟩:=HV.out.slice
    rw [List.length_nil] at *
    go_wp2_with fail
    go_ret2
    exact ⟨ret_val (congrArg (fun z=>Value.tuple #[.string z,.int .i64 0]) Htx.out.symm),hE⟩
   ·rw [if_neg h0] at Htx
    have hpos:0<xs.length:=List.length_pos_iff.2 h0
    obtain ⟨g,cap',rfl⟩:=HV.out.sh rfl hpos
    have hj:=Lib.hid (joinA_any (s:=[32]) HV.out rfl hpos (by omega) (by
     have:=joinA_le (b:=90) [32] (r:=xs.map (·.data.toList)) (fun x hx=>by
      obtain ⟨y,hy,rfl⟩:=List.mem_map.1 hx
      exact hlen y hy)
     rw [List.length_map] at this
     simp only [List.length_cons,List.length_nil] at this
     omega))
    obtain ⟨n,hn⟩ : ∃ n,n=xs.length:=⟨_,rfl⟩
    rw [← hn] at hj hpos ⊢
    have hnI:((n:Int)==0)=false:=beq_eq_false_iff_ne.2 (by omega)
    have hnJ : ¬ (n:Int)=0:=by omega
    clear hn h0 hlen hxl
    go_wp2_with fail
    refine hj.out.mono ?_
    rintro e W ⟨rfl,hW⟩
    go_wp2_with fail
    go_ret2
    exact ⟨ret_val (congrArg (fun z=>Value.tuple #[.string z,.int .i64 0]) Htx.out.symm),hE.trans hW⟩
end Go.Proofs.YtjnpakablgommaaGreatDoor
