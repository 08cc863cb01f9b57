/- Part 15 of the proof of the claim: contracts of the functions that it reaches, and plain laws; no condition. -/
import Derived.Test.YtjnpakablgommaaGreatDoorV14
import Derived.Test.YtjnpakablgommaaGreatDoorV10
import Derived.Test.YtjnpakablgommaaGreatDoorV13
set_option maxRecDepth 100000
namespace Go.Proofs.YtjnpakablgommaaGreatDoor
open Go.RowKit Go.Sort
abbrev RV (r:Rat):Value := .agg #[I r.num,I r.den]
def SmQ (r:Rat):Prop:=nd r.num≤100000000∧nd r.den≤100000000
theorem qR_eq {n d:Int} {r:Rat} (h:qmk n d=qR r):qn n d=r.num∧qd n d=r.den:=by
 unfold qmk qR at h
 injection h with h1 h2
 exact ⟨h1,h2⟩
theorem den_pos' (r:Rat):(0:Int)<(r.den:Int):=by have:=r.den_pos; omega
theorem ratOf_any {n d:Int} (hn : -9223372036854775808≤n∧n≤9223372036854775807) (hd : -9223372036854775808≤d∧d≤9223372036854775807) (h0:d≠0) {w:World} (hL:Laid w) :
  Calls Tryz.prog 110 #[.int .i64 n,.int .i64 d] w fun e w'=>e = .returned (.tuple #[RV ((n:Rat)/(d:Rat)),.int .i64 0])∧Ext w w':=by
 have h:=fOf_any hn hd h0 hL
 obtain ⟨e1,e2⟩:=qR_eq (qmk_R (n:=n) h0)
 rw [e1,e2] at h
 exact h
theorem ratMul_any {a b:Rat} (ha:SmQ a) (hb:SmQ b) {w:World} (hL:Laid w) :
  Calls Tryz.prog 102 #[RV a,RV b] w fun e w'=>e = .returned (RV (a*b))∧Ext w w':=by
 have h:=fMul_any ha.1 ha.2 hb.1 hb.2 (den_pos' a) (den_pos' b) hL
 obtain ⟨e1,e2⟩:=qR_eq (qmul_R a b)
 simp only [qR] at e1 e2
 rw [e1,e2] at h
 exact h
theorem ratAdd_any {a b:Rat} (ha:SmQ a) (hb:SmQ b) {w:World} (hL:Laid w) :
  Calls Tryz.prog 101 #[RV a,RV b] w fun e w'=>e = .returned (RV (a+b))∧Ext w w':=by
 have h:=fAdd_any ha.1 ha.2 hb.1 hb.2 (den_pos' a) (den_pos' b) hL
 obtain ⟨e1,e2⟩:=qR_eq (qadd_R a b)
 simp only [qR] at e1 e2
 rw [e1,e2] at h
 exact h
theorem ratSub_any {a b:Rat} (ha:SmQ a) (hb:SmQ b) {w:World} (hL:Laid w) :
  Calls Tryz.prog 89 #[RV a,RV b] w fun e w'=>e = .returned (RV (a-b))∧Ext w w':=by
 have h:=fSub_any ha.1 ha.2 hb.1 hb.2 (den_pos' a) (den_pos' b) hL
 have hq:=qadd_R a (-b)
 rw [show a + -b=a-b by grind] at hq
 obtain ⟨e1,e2⟩:=qR_eq hq
 simp only [qR,Rat.neg_num,Rat.neg_den] at e1 e2
 rw [Int.neg_mul, ← Int.sub_eq_add_neg] at e1 e2
 rw [e1,e2] at h
 exact h
theorem Tw.sm {B:Nat} {r:Rat} (h:Tw B r) (hB:B<10^30):nd r.num≤30∧nd r.den≤30:=by
 obtain ⟨h1,h2⟩:=h.num
 refine ⟨nDigits_le (u:=r.num.natAbs) (k:=30) (by omega) (by omega),nDigits_le (u:=((r.den:Int)).natAbs) (k:=30) (by omega) ?_⟩
 have:(10:Nat)^30=1000000000000000000000000000000:=by decide
 omega
theorem Tw.smQ {B:Nat} {r:Rat} (h:Tw B r) (hB:B<10^30):SmQ r:=by
 have:=h.sm hB
 exact ⟨by omega,by omega⟩
end Go.Proofs.YtjnpakablgommaaGreatDoor
namespace Go.Proofs.YtjnpakablgommaaGreatDoor
theorem nd_0:nd 0=1:=Lib.nDigits_small (u:=0) (by omega)
theorem nd_1:nd 1=1:=Lib.nDigits_small (u:=1) (by omega)
def NdQ (E:Nat) (r:Rat):Prop:=nd r.num≤E∧nd r.den≤E
theorem NdQ.mono {E F:Nat} {r:Rat} (h:NdQ E r) (hE:E≤F):NdQ F r:=⟨Nat.le_trans h.1 hE,Nat.le_trans h.2 hE⟩
theorem NdQ.smQ {E:Nat} {r:Rat} (h:NdQ E r) (hE:E≤100000000):SmQ r:=⟨Nat.le_trans h.1 hE,Nat.le_trans h.2 hE⟩
theorem NdQ.of_int {E:Nat} {k:Int} (h:nd k≤E):NdQ E (k:Rat):=by
 refine ⟨by simpa using h,?_⟩
 have:=nd_pos k
 rw [show (((k:Rat).den:Nat):Int)=1 by simp]
 rw [nd_1]; omega
theorem NdQ.zero {E:Nat} (h:1≤E):NdQ E 0:=by
 have:=NdQ.of_int (E:=E) (k:=0) (by rw [nd_0]; exact h)
 simpa using this
theorem NdQ.one {E:Nat} (h:1≤E):NdQ E 1:=by
 have:=NdQ.of_int (E:=E) (k:=1) (by rw [nd_1]; exact h)
 simpa using this
theorem NdQ.neg {E:Nat} {r:Rat} (h:NdQ E r):NdQ E (-r):=by
 unfold NdQ; rw [Rat.neg_num,Rat.neg_den,nd_neg]; exact h
theorem NdQ.mk {n d:Int} {r:Rat} {E:Nat} (h:qmk n d=qR r) (hn:nd n≤E) (hd:nd d≤E):NdQ E r:=by
 obtain ⟨e1,e2⟩:=qR_eq h
 refine ⟨?_,?_⟩
 ·rw [← e1]; exact Nat.le_trans (nd_qn _ _) hn
 ·rw [← e2]; exact Nat.le_trans (nd_qd _ _) hd
theorem NdQ.add {E F:Nat} {a b:Rat} (ha:NdQ E a) (hb:NdQ F b):NdQ (E+F+1) (a+b):=by
 have h1:=nd_mul a.num b.den
 have h2:=nd_mul b.num a.den
 have h3:=nd_mul a.den b.den
 have h4:=nd_add (a.num*b.den) (b.num*a.den)
 obtain ⟨a1,a2⟩:=ha
 obtain ⟨b1,b2⟩:=hb
 refine NdQ.mk (qadd_R a b) ?_ ?_
 ·show nd (a.num*b.den+b.num*a.den)≤_
  omega
 ·show nd ((a.den:Int)*b.den)≤_
  omega
theorem NdQ.sub {E F:Nat} {a b:Rat} (ha:NdQ E a) (hb:NdQ F b):NdQ (E+F+1) (a-b):=by
 rw [show a-b=a + -b by grind]; exact ha.add hb.neg
theorem NdQ.mul {E F:Nat} {a b:Rat} (ha:NdQ E a) (hb:NdQ F b):NdQ (E+F) (a*b):=by
 have h1:=nd_mul a.num b.num
 have h3:=nd_mul a.den b.den
 obtain ⟨a1,a2⟩:=ha
 obtain ⟨b1,b2⟩:=hb
 refine NdQ.mk (qmul_R a b) ?_ ?_
 ·show nd (a.num*b.num)≤_
  omega
 ·show nd ((a.den:Int)*b.den)≤_
  omega
theorem sumR_nd {f:Nat→Rat} {E:Nat} : ∀ n,(∀ k,k<n→NdQ E (f k))→NdQ (n*(E+1)+1) (sumR f n)
 | 0,_=>by rw [Nat.zero_mul]; exact NdQ.zero (by omega)
 | n+1,h=>by
  have:=(sumR_nd n fun k hk=>h k (by omega)).add (h n (by omega))
  refine NdQ.mono this ?_
  rw [Nat.succ_mul]; omega
theorem cmbF_nd {l:List (List Rat)} {fs:List Rat} {E F c k:Nat} (hl : ∀ s∈l,∀ r∈s,NdQ E r) (hf : ∀ r∈fs,NdQ F r) (hE:1≤E) (hF:1≤F):NdQ (E+F) (cmbF l fs c k):=by
 refine NdQ.mul ?_ ?_
 ·rw [List.getD_eq_getElem?_getD,List.getD_eq_getElem?_getD]
  by_cases h:k<l.length
  ·rw [List.getElem?_eq_getElem h,Option.getD_some]
   by_cases h2:c<l[k].length
   ·rw [List.getElem?_eq_getElem h2,Option.getD_some]; exact hl _ (List.getElem_mem h) _ (List.getElem_mem h2)
   ·rw [List.getElem?_eq_none (by omega)]; exact NdQ.zero hE
  ·rw [List.getElem?_eq_none (show l.length≤k by omega),Option.getD_none,List.getElem?_nil]; exact NdQ.zero hE
 ·rw [List.getD_eq_getElem?_getD]
  by_cases h:k<fs.length
  ·rw [List.getElem?_eq_getElem h,Option.getD_some]; exact hf _ (List.getElem_mem h)
  ·rw [List.getElem?_eq_none (by omega)]; exact NdQ.zero hF
end Go.Proofs.YtjnpakablgommaaGreatDoor
namespace Go.Proofs.YtjnpakablgommaaGreatDoor
open Go.RowKit Go.Sort
theorem shQ_nd {l:List Rat} (h:ShQ l) {E:Nat} (hE:30≤E) : ∀ r∈l,NdQ E r:=fun r hr=>⟨by have:=(h r hr).1; omega,by have:=(h r hr).2; omega⟩
def shB (n d:Int):Bool:=decide (nd n≤30)&&decide (nd d≤30)
theorem szshort_all {n d:Int} (hn:nd n≤400) (h0:0<d) (w:World) :
  Calls Tryz.prog 209 #[.agg #[I n,I d]] w fun e w'=>e = .returned (.bool (shB n d))∧Ext w w':=by
 have h1:=Lib.hid (fun W=>Abs_any (z:=n) (by unfold LIM; omega) W)
 have l1:(Lib.itoa (n.natAbs:Int)).length=nd n:=by
  rw [itoa_nat,Lib.decDigits_length]; rfl
 have l2:(Lib.itoa d).length=nd d:=by
  rw [itoa_pos (by omega),Lib.decDigits_length]; rfl
 have hX:Ext w (w.alloc (.cells #[I n,I d] 81)):=(Ext.refl w).alloc _
 have HO:=two_alloc w 81 (I n) (I d)
 have c0:(w.alloc (.cells #[I n,I d] 81)).cell? ⟨w.heap.size,0,none⟩=some (I n):=HO.cell (j:=0) (by simp)
 have c1:(w.alloc (.cells #[I n,I d] 81)).cell? ⟨w.heap.size,1,none⟩=some (I d):=HO.cell (j:=1) (by simp)
 have hb:shB n d=(decide (nd n≤30)&&decide (nd d≤30)):=rfl
 rw [← l1, ← l2] at hb
 have Hb:=Lib.hid hb
 clear HO hn h0 hb
 go_enter Tryz.func209,Tryz.ntmps209
 go_wp2_with fail
 refine (h1.out _).mono ?_
 rintro e w1 ⟨rfl,hE1⟩
 have c0:=hE1.cell c0
 have c1:=hE1.cell c1
 have e1:=hX.trans hE1
 clear l1 l2
 unfold I S at c1 ⊢
 generalize Lib.itoa (n.natAbs:Int)=la at *
 generalize Lib.itoa d=lb at *
 by_cases i1:la.length≤30
 ·have j1:(la.length:Int)≤30:=by omega
  by_cases i2:lb.length≤30
  ·have j2:(lb.length:Int)≤30:=by omega
   rw [decide_eq_true i1,decide_eq_true i2] at Hb
   clear i1 i2
   go_wp2_with fail
   go_ret
   exact ⟨by rw [Hb.out]; rfl,e1⟩
  ·have j2 : ¬ (lb.length:Int)≤30:=by omega
   rw [decide_eq_true i1,decide_eq_false i2] at Hb
   clear i1 i2
   go_wp2_with fail
   go_ret
   exact ⟨ret_val (congrArg Value.bool (by rw [Hb.out,decide_eq_false (show ¬ (lb.length:Int)≤30 by omega)]; rfl)),e1⟩
 ·have j1 : ¬ (la.length:Int)≤30:=by omega
  rw [decide_eq_false i1] at Hb
  clear i1
  go_wp2_with fail
  go_ret
  exact ⟨by rw [Hb.out]; rfl,e1⟩
def szE (l:List Rat):Int:=if l.all (fun r=>shB r.num r.den) then 0 else 4
theorem szE_sh {l:List Rat} (h:ShQ l):szE l=0:=by
 unfold szE
 rw [if_pos]
 rw [List.all_eq_true]
 intro r hr
 obtain ⟨h1,h2⟩:=h r hr
 unfold shB
 rw [decide_eq_true h1,decide_eq_true h2]; rfl
theorem szE_zero {l:List Rat} (h:szE l=0):ShQ l:=by
 unfold szE at h
 split at h
 ·rename_i h2
  rw [List.all_eq_true] at h2
  intro r hr
  have:=h2 r hr
  unfold shB at this
  simpa using this
 ·cases h
set_option maxHeartbeats 1000000 in
theorem szcheck_all {w:World} {pa:Option Addr} {np cp:Nat} {v:Value} {l:List Rat} (hs:SzR w v l) (hl:l.length=np) (hb : ∀ r∈l,NdQ 400 r) (h1000:np≤1000000) (hL:Laid w) :
  Calls Tryz.prog 142 #[.slice pa np cp,v] w fun e w'=>e = .returned (.int .i64 (szE l))∧Ext w w':=by
 obtain ⟨sa,gb,go,cap,rfl,hc,ha,hr⟩:=hs
 have Hr:=Lib.hid hr
 have Ha:=Lib.hid ha
 have Hb:=Lib.hid hb
 have HL:=Lib.hid hL
 have Hl:=Lib.hid hl
 rw [hl] at hc ⊢
 clear hr ha hb hL hl
 go_enter Tryz.func142,Tryz.ntmps142
 go_wp2_with fail
 go_loopw [14] (fun i wr => ∃ j:Nat,j≤np∧i = .int .i64 j∧Hid (∀ t (h:t<l.length),t<j→shB l[t].num l[t].den=true)∧Ext w wr) (fun i _=>np-(intOf i).toNat)
 case atStart=>exact ⟨0,Nat.zero_le _,by go_num,Lib.hid (fun t _ h=>by omega),Ext.refl _⟩
 case round =>
  obtain ⟨j,hj,rfl,HA,hE⟩:=hrel
  generalize wr=X at *
  by_cases hlt:j<np
  ·have hjl:j<l.length:=by rw [Hl.out]; exact hlt
   obtain rfl:=Ha.out (by omega)
   obtain ⟨k0,k1⟩:=Hr.out j hjl
   have hbr:=Hb.out l[j] (List.getElem_mem hjl)
   have x0:=hE.cell k0
   have x1:=hE.cell k1
   have hpos:=qR_pos l[j]
   have hcop:=qR_cop l[j]
   simp only [qR] at hpos hcop
   have hck:=Lib.hid (fun W (hW:Ext X W)=>fcheck_any (n:=l[j].num) (d:=l[j].den) hbr.1 hbr.2 hpos hcop (HL.out.ext (hE.trans hW)))
   have hsh:=Lib.hid (fun W=>szshort_all (n:=l[j].num) (d:=l[j].den) hbr.1 hpos W)
   have hji:(j:Int)<(np:Int):=by omega
   have Hno:=Lib.hid (fun (h:shB l[j].num l[j].den=false)=>show szE l=4 by
    unfold szE
    rw [if_neg]
    intro h2
    rw [List.all_eq_true] at h2
    have:=h2 l[j] (List.getElem_mem hjl)
    rw [h] at this; cases this)
   have Hyes:=Lib.hid (fun (h:shB l[j].num l[j].den=true) t (ht:t<l.length) (htj:t<j+1)=>show shB l[t].num l[t].den=true by
    by_cases e:t=j
    ·subst e; exact h
    ·exact HA.out t ht (by omega))
   clear k0 k1 hbr hpos hcop HA
   generalize hb:shB l[j].num l[j].den=b at *
   clear hb
   generalize l[j].num=n at *
   generalize ((l[j].den:Nat):Int)=d at *
   clear hjl
   have HO:=two_alloc X 81 (I n) (I d)
   have hX:Ext X (X.alloc (.cells #[I n,I d] 81)):=(Ext.refl X).alloc _
   have c0:(X.alloc (.cells #[I n,I d] 81)).cell? ⟨X.heap.size,0,none⟩=some (I n):=HO.cell (j:=0) (by simp)
   have c1:(X.alloc (.cells #[I n,I d] 81)).cell? ⟨X.heap.size,1,none⟩=some (I d):=HO.cell (j:=1) (by simp)
   clear HO
   go_wp2_with fail
   refine (hck.out _ hX).mono ?_
   rintro e w1 ⟨rfl,hE1⟩
   have c0:=hE1.cell c0
   have c1:=hE1.cell c1
   have e1:=hX.trans hE1
   go_wp2_with fail
   refine (hsh.out _).mono ?_
   rintro e w2 ⟨rfl,hE2⟩
   have e2:=hE.trans (e1.trans hE2)
   clear hck hsh c0 c1 x0 x1
   cases b
   ·have H4:=Lib.hid (Hno.out rfl)
    clear Hno Hyes
    go_wp2_with fail
    go_ret
    exact ⟨ret_val (congrArg (Value.int .i64) H4.out.symm),e2⟩
   ·have HA:=Lib.hid (Hyes.out rfl)
    clear Hno Hyes
    go_wp2_with fail
    go_roundw
    case rel=>exact ⟨j+1,by omega,by go_num,HA,e2⟩
    case measure=>simp [intOf] <;> omega
  ·have hje:j=np:=by omega
   have hji : ¬ (j:Int)<(np:Int):=by omega
   have H0:=Lib.hid (show szE l=0 by
    unfold szE
    rw [if_pos]
    rw [List.all_eq_true]
    intro r hr
    obtain ⟨t,ht,rfl⟩:=List.getElem_of_mem hr
    exact HA.out t ht (by have:=Hl.out; omega))
   clear hlt HA
   go_wp2_with fail
   go_ret
   exact ⟨ret_val (congrArg (Value.int .i64) H0.out.symm),hE⟩
theorem szCheck_all {w:World} {pa:Option Addr} {np cp:Nat} {v:Value} {l:List Rat} (hpc : ∀ W,Ext w W→Calls Tryz.prog 48 #[.slice pa np cp] W fun e w'=>e = .returned (.int .i64 0)∧Ext W w') (hs:SzR w v l) (hl:l.length=np) (hb : ∀ r∈l,NdQ 400 r) (h1000:np≤1000000) (hL:Laid w) :
  Calls Tryz.prog 83 #[.slice pa np cp,v] w fun e w'=>e = .returned (.int .i64 (szE l))∧Ext w w':=by
 have Hc:=Lib.hid (fun W (hW:Ext w W)=>szcheck_all (pa:=pa) (cp:=cp) (hs.ext hW) hl hb h1000 (hL.ext hW))
 have Hp:=Lib.hid (hpc w (Ext.refl w))
 obtain ⟨sa,gb,go,cap,rfl,_,_,_⟩:=hs
 generalize szE l=z at *
 clear hpc hl hb hL
 go_enter Tryz.func83,Tryz.ntmps83
 go_wp2_with fail
 refine Hp.out.mono ?_
 rintro e w0 ⟨rfl,hE0⟩
 go_wp2_with fail
 refine (Hc.out _ hE0).mono ?_
 rintro e w1 ⟨rfl,hE1⟩
 go_wp2_with fail
 go_ret
 exact ⟨rfl,hE0.trans hE1⟩
def resV (l:List Rat) (v:Value):Value:=if szE l=0 then .tuple #[v,.int .i64 0] else .tuple #[.slice none 0 0,.int .i64 4]
theorem tuResult_any {w:World} {pa:Option Addr} {np cp:Nat} {v:Value} {l:List Rat} (hpc : ∀ W,Ext w W→Calls Tryz.prog 48 #[.slice pa np cp] W fun e w'=>e = .returned (.int .i64 0)∧Ext W w') (hs:SzR w v l) (hl:l.length=np) (hb : ∀ r∈l,NdQ 400 r) (h1000:np≤1000000) (hL:Laid w) :
  Calls Tryz.prog 85 #[.slice pa np cp,v] w fun e w'=>e = .returned (resV l v)∧Ext w w':=by
 have Hc:=Lib.hid (fun W (hW:Ext w W)=>szCheck_all (pa:=pa) (cp:=cp) (fun W2 h2=>hpc W2 (hW.trans h2)) (hs.ext hW) hl hb h1000 (hL.ext hW))
 have hv:resV l v=if szE l=0 then .tuple #[v,.int .i64 0] else .tuple #[.slice none 0 0,.int .i64 4]:=rfl
 obtain ⟨sa,gb,go,cap,rfl,_,_,_⟩:=hs
 generalize szE l=z at *
 clear hpc hl hb hL
 by_cases hz:z=0
 ·subst hz
  rw [if_pos rfl] at hv
  have Hv:=Lib.hid hv
  clear hv
  go_enter Tryz.func85,Tryz.ntmps85
  go_wp2_with fail
  refine (Hc.out _ (Ext.refl w)).mono ?_
  rintro e w1 ⟨rfl,hE1⟩
  go_wp2_with fail
  go_ret2
  exact ⟨ret_val Hv.out.symm,hE1⟩
 ·rw [if_neg hz] at hv
  have Hv:=Lib.hid hv
  have hz2:(z==0)=false:=beq_eq_false_iff_ne.2 hz
  have hz3:(z != 0)=true:=by simp [bne,hz2]
  clear hv
  go_enter Tryz.func85,Tryz.ntmps85
  go_wp2_with fail
  refine (Hc.out _ (Ext.refl w)).mono ?_
  rintro e w1 ⟨rfl,hE1⟩
  go_wp2_with fail
  go_ret2
  exact ⟨ret_val Hv.out.symm,hE1⟩
theorem fSign_any (a b:Int) (w:World) :
  Calls Tryz.prog 43 #[.agg #[I a,I b]] w fun e w'=>e = .returned (.int .i64 a.sign)∧Ext w w':=by
 have hs:=Lib.hid (Sign_any a)
 generalize a.sign=sg at *
 have hX:Ext w (w.alloc (.cells #[I a,I b] 81)):=(Ext.refl w).alloc _
 have HO:=two_alloc w 81 (I a) (I b)
 have c0:(w.alloc (.cells #[I a,I b] 81)).cell? ⟨w.heap.size,0,none⟩=some (I a):=HO.cell (j:=0) (by simp)
 clear HO
 go_enter Tryz.func43,Tryz.ntmps43
 go_wp2_with fail
 refine (hs.out _).mono ?_
 rintro e w1 ⟨rfl,hE1⟩
 go_wp2_with fail
 go_ret
 exact ⟨rfl,hX.trans hE1⟩
theorem clo_fp (s:Rat) (w:World) :
  Calls Tryz.prog 99 #[RV s] w fun e w'=>e = .returned (.bool (s.num.sign != 0))∧Ext w w':=by
 have hX:Ext w (w.alloc (.cells #[I s.num,I s.den] 81)):=(Ext.refl w).alloc _
 have hsg:=Lib.hid (fun W=>fSign_any s.num s.den W)
 have HO:=two_alloc w 81 (I s.num) (I s.den)
 have c0:(w.alloc (.cells #[I s.num,I s.den] 81)).cell? ⟨w.heap.size,0,none⟩=some (I s.num):=HO.cell (j:=0) (by simp)
 have c1:(w.alloc (.cells #[I s.num,I s.den] 81)).cell? ⟨w.heap.size,1,none⟩=some (I s.den):=HO.cell (j:=1) (by simp)
 unfold RV
 clear HO
 generalize s.num.sign=g at *
 generalize s.num=a at *
 generalize ((s.den:Nat):Int)=b at *
 go_enter Tryz.func99,Tryz.ntmps99
 go_wp2_with fail
 refine (hsg.out _).mono ?_
 rintro e w1 ⟨rfl,hE1⟩
 go_wp2_with fail
 go_ret
 exact ⟨rfl,hX.trans hE1⟩
def IxF (l:List Rat) (e:Ending):Prop := ∃ k:Int,e = .returned (.int .i64 k)∧((k = -1 ∧ ∀ r∈l,r.num=0)∨(0≤k ∧ ∃ r∈l,r.num≠0))
theorem sign_z {n:Int} (h:n=0):(n.sign != 0)=false:=by subst h; rfl
theorem sign_nz {n:Int} (h:n≠0):(n.sign != 0)=true:=by
 have:n.sign≠0:=fun e=>h (Int.sign_eq_zero_iff_zero.1 e)
 simp [this]
set_option maxHeartbeats 1000000 in
theorem idx_fp {w:World} {v:Value} {l:List Rat} (hs:SzR w v l) (hl:l.length≤1000000) :
  Calls Tryz.prog 159 #[v,.func (.func 99) #[] #[]] w fun e w'=>IxF l e∧Ext w w':=by
 obtain ⟨sa,gb,go,cap,rfl,hc,ha,hr⟩:=hs
 obtain ⟨n,hn⟩ : ∃ n,n=l.length:=⟨_,rfl⟩
 rw [← hn] at hc ha hl ⊢
 have Hn:=Lib.hid hn
 have Hr:=Lib.hid hr
 have Ha:=Lib.hid ha
 clear hr ha hn
 go_enter Tryz.func159,Tryz.ntmps159
 go_wp2_with fail
 go_loopw [8] (fun idx wr => ∃ i:Nat,i≤n∧idx = .int .i64 i∧Hid (∀ j (h:j<l.length),j<i→l[j].num=0)∧Ext w wr) (fun idx _=>n-(intOf idx).toNat)
 case atStart=>exact ⟨0,by omega,by go_num,Lib.hid (fun j _ h=>by omega),Ext.refl _⟩
 case round =>
  obtain ⟨i,hi,rfl,hZ,hE⟩:=hrel
  generalize wr=X at *
  by_cases hlt:i<n
  ·have hii:(i:Int)<(n:Int):=by omega
   have hil:i<l.length:=by rw [← Hn.out]; exact hlt
   obtain rfl:=Ha.out (by omega)
   obtain ⟨k0,k1⟩:=Hr.out i hil
   have x0:=hE.cell k0
   have x1:=hE.cell k1
   have hf:=clo_fp l[i] X
   by_cases h0:l[i].num=0
   ·have hZ2:=Lib.hid (fun j (h:j<l.length) (h2:j<i+1)=>show l[j].num=0 by
     rcases Nat.lt_or_ge j i with h3 | h3
     ·exact hZ.out j h h3
     ·obtain rfl:j=i:=by omega
      exact h0)
    rw [sign_z h0] at hf
    have Hf:=Lib.hid hf
    unfold RV at Hf
    clear hf h0 hZ
    generalize l[i]=s at *
    clear k0 k1 hlt
    go_wp2_with fail
    refine Hf.out.mono ?_
    rintro e W ⟨rfl,hE2⟩
    go_wp2_with fail
    go_roundw
    case rel=>exact ⟨i+1,by omega,by go_num,hZ2,hE.trans hE2⟩
    case measure=>simp [intOf] <;> omega
   ·have hR:=Lib.hid (show IxF l (.returned (.int .i64 (i:Int))) from ⟨i,rfl,.inr ⟨by omega,l[i],List.getElem_mem hil,h0⟩⟩)
    rw [sign_nz h0] at hf
    have Hf:=Lib.hid hf
    unfold RV at Hf
    clear hf h0 hZ
    generalize l[i]=s at *
    clear k0 k1 hlt
    go_wp2_with fail
    refine Hf.out.mono ?_
    rintro e W ⟨rfl,hE2⟩
    go_wp2_with fail
    go_ret
    exact ⟨hR.out,hE.trans hE2⟩
  ·obtain rfl:i=n:=by omega
   have hii : ¬ (i:Int)<(i:Int):=by omega
   have hR:=Lib.hid (show IxF l (.returned (.int .i64 (-1))) from ⟨-1,rfl,.inl ⟨rfl,fun r hr=>by
    obtain ⟨j,hj,rfl⟩:=List.getElem_of_mem hr
    exact hZ.out j hj (by have:=Hn.out; omega)⟩⟩)
   clear hZ
   go_wp2_with fail
   go_ret
   exact ⟨hR.out,hE⟩
def HasF (l:List Rat) (e:Ending):Prop:=(e = .returned (.bool false) ∧ ∀ r∈l,r.num=0)∨(e = .returned (.bool true) ∧ ∃ r∈l,r.num≠0)
theorem has_fp {w:World} {v:Value} {l:List Rat} (hs:SzR w v l) (hl:l.length≤1000000) :
  Calls Tryz.prog 98 #[v,.func (.func 99) #[] #[]] w fun e w'=>HasF l e∧Ext w w':=by
 have HI:=Lib.hid (idx_fp hs hl)
 obtain ⟨sa,gb,go,cap,rfl,hc,ha,hr⟩:=hs
 clear hc ha hr
 go_enter Tryz.func98,Tryz.ntmps98
 go_wp2_with fail
 refine HI.out.mono ?_
 rintro e W ⟨⟨k,rfl,(⟨hk,hz⟩ | ⟨hk,hz⟩)⟩,hE⟩
 ·subst hk
  have hR:=Lib.hid (show HasF l (.returned (.bool false)) from .inl ⟨rfl,hz⟩)
  clear hz
  go_wp2_with fail
  go_ret
  exact ⟨hR.out,hE⟩
 ·obtain ⟨m,rfl⟩:=Int.eq_ofNat_of_zero_le hk
  have hR:=Lib.hid (show HasF l (.returned (.bool true)) from .inr ⟨rfl,hz⟩)
  clear hk hz
  go_wp2_with fail
  go_ret
  exact ⟨hR.out,hE⟩
theorem sam_getD_ext {a b:List Int} (hl:a.length=b.length) (h : ∀ j,j<a.length→a.getD j 0=b.getD j 0):a=b:=by
 apply List.ext_getElem hl
 intro i h1 h2
 have:=h i h1
 rwa [getD_get h1,getD_get h2] at this
set_option maxHeartbeats 1000000 in
theorem SlEq_any {w:World} {va vb:Value} {a b:List Int} (hA:RowR w va a) (hB:RowR w vb b) (hbig:a.length≤1000000) :
  Calls Tryz.prog 208 #[va,vb] w fun e w'=>e = .returned (.bool (decide (a=b)))∧Ext w w':=by
 obtain ⟨sa,ga,oa,ca,rfl,hca,hSa⟩:=hA
 obtain ⟨sb,gb,ob,cb,rfl,hcb,hSb⟩:=hB
 by_cases hl:a.length=b.length
 ·obtain ⟨n,hn⟩ : ∃ n,n=a.length:=⟨_,rfl⟩
  rw [← hl]
  rw [← hn] at hbig ⊢
  have HA:=Lib.hid hSa
  have HB:=Lib.hid hSb
  have Hn:=Lib.hid hn
  have Hm:=Lib.hid (hn.trans hl)
  clear hSa hSb hl hn hca hcb
  go_enter Tryz.func208,Tryz.ntmps208
  go_wp2_with fail
  go_loopw [13] (fun idx wr => ∃ i:Nat,i≤n∧idx = .int .i64 i∧Hid (∀ j,j<i→a.getD j 0=b.getD j 0)∧Ext w wr) (fun idx _=>n-(intOf idx).toNat)
  case atStart=>exact ⟨0,by omega,by go_num,Lib.hid (fun j h=>by omega),Ext.refl _⟩
  case round =>
   obtain ⟨i,hi,rfl,Hz,hE⟩:=hrel
   generalize wr=X at *
   by_cases hlt:i<n
   ·have hii:(i:Int)<(n:Int):=by omega
    have c1:=(HA.out.ext hE).cell i (.int .i64 (a[i]'(by rw [← Hn.out]; exact hlt))) (is_get (by rw [← Hn.out]; exact hlt))
    have c2:=(HB.out.ext hE).cell i (.int .i64 (b[i]'(by rw [← Hm.out]; exact hlt))) (is_get (by rw [← Hm.out]; exact hlt))
    obtain rfl:=HA.out.addr (by rw [is_length, ← Hn.out]; omega)
    obtain rfl:=HB.out.addr (by rw [is_length, ← Hm.out]; omega)
    obtain ⟨x,hx⟩ : ∃ x,x=a[i]'(by rw [← Hn.out]; exact hlt):=⟨_,rfl⟩
    obtain ⟨y,hy⟩ : ∃ y,y=b[i]'(by rw [← Hm.out]; exact hlt):=⟨_,rfl⟩
    rw [← hx] at c1
    rw [← hy] at c2
    have Hx:=Lib.hid (show a.getD i 0=x by rw [hx,getD_get (by rw [← Hn.out]; exact hlt)])
    have Hy:=Lib.hid (show b.getD i 0=y by rw [hy,getD_get (by rw [← Hm.out]; exact hlt)])
    clear hx hy
    by_cases hxy:x=y
    ·subst hxy
     go_wp2_with fail
     go_quiet (fail)
     go_wp2_with fail
     go_roundw
     case rel=>exact ⟨i+1,by omega,by go_num,Lib.hid (fun j hj=>by
      by_cases e:j=i
      ·subst e; rw [Hx.out,Hy.out]
      ·exact Hz.out j (by omega)),hE.drewN _⟩
     case measure=>simp [intOf] <;> omega
    ·have hb1:(x==y)=false:=beq_eq_false_iff_ne.2 hxy
     have hb2:(x != y)=true:=by simp [bne,hb1]
     have Hne:=Lib.hid (show decide (a=b)=false from decide_eq_false (fun e=>hxy (by rw [← Hx.out, ← Hy.out,e])))
     go_wp2_with fail
     go_quiet (fail)
     go_wp2_with fail
     go_ret
     exact ⟨by rw [Hne.out]; rfl,hE.drewN _⟩
   ·have Heq:=Lib.hid (show decide (a=b)=true from decide_eq_true (sam_getD_ext (by rw [← Hn.out, ← Hm.out]) (fun j hj=>Hz.out j (by rw [← Hn.out] at hj; omega))))
    go_wp2_with fail
    go_ret
    exact ⟨by rw [Heq.out]; rfl,hE⟩
 ·have hne:decide (a=b)=false:=decide_eq_false (fun e=>hl (by rw [e]))
  rw [hne]
  have h1 : ¬ ((a.length:Int)=(b.length:Int)):=by omega
  have h2:((a.length:Int)==(b.length:Int))=false:=beq_eq_false_iff_ne.2 h1
  have h3:((a.length:Int) != (b.length:Int))=true:=by simp [bne,h2]
  clear hSa hSb hca hcb hne
  generalize a.length=n at *
  generalize b.length=m at *
  go_enter Tryz.func208,Tryz.ntmps208
  go_wp2_with fail
  go_ret
  exact ⟨rfl,Ext.refl _⟩
theorem rowEqual_any {w:World} {va vb:Value} {a b:List Int} (hA:RowR w va a) (hB:RowR w vb b) (hbig:a.length≤1000000) :
  Calls Tryz.prog 178 #[va,vb] w fun e w'=>e = .returned (.bool (decide (a=b)))∧Ext w w':=by
 have h:=Lib.hid (SlEq_any hA hB hbig)
 clear hA hB
 go_enter Tryz.func178,Tryz.ntmps178
 go_wp2_with fail
 refine h.out.mono ?_
 rintro e w1 ⟨rfl,hE⟩
 go_wp2_with fail
 go_ret
 exact ⟨rfl,hE⟩
def IntsV (B:Nat) (w:World) (v:Value) (l:List Int):Prop:=w.ownsRow B 79 1 v l.length (ss l)
theorem IntsV.nil (B:Nat) (w:World):IntsV B w (.slice none 0 0) []:=⟨rfl,.inl ⟨rfl,rfl⟩⟩
theorem IntsV.ext {B:Nat} {w w':World} {v:Value} {l:List Int} (h:IntsV B w v l) (he:Ext w w'):IntsV B w' v l:=ownsRow_ext h he
theorem IntsV.mono {B B':Nat} {w:World} {v:Value} {l:List Int} (h:IntsV B w v l) (hB:B'≤B):IntsV B' w v l:=ownsRow_mono h hB
theorem IntsV.sl {B:Nat} {w:World} {v:Value} {l:List Int} (h:IntsV B w v l) : ∃ ga gb cap,v = .slice ga l.length cap∧l.length≤cap∧Sl w ga gb 0 (ss l):=by
 rcases h.2 with ⟨rfl,h0⟩ | ⟨g,cap,cur,rfl,hb,hg,hn,hm,hs,ht⟩
 ·have:l=[]:=List.eq_nil_of_length_eq_zero h0
  subst this
  exact ⟨none,0,0,rfl,Nat.le_refl _,Sl.nil _ _ _ _⟩
 ·have ho:OwnV 79 B w g cap (ss l):=by unfold OwnV; rw [ss_length]; exact h
  exact ⟨_,g,cap,rfl,hn,ho.sl⟩
theorem ss_snoc (l:List Int) (z:Int):ss (l++[z])=ss l++[I z]:=by simp only [ss,List.map_append,List.map_cons,List.map_nil]
theorem OwnV.ints {B:Nat} {w:World} {g cap:Nat} {l:List Int} (h:OwnV 79 B w g cap (ss l)):IntsV B w (slv g l.length cap) l:=by
 unfold IntsV; unfold OwnV at h; rw [ss_length] at h; exact h
section
variable {w:World} {ops:Array Oper} {rest:List Oper} {o:Oper} {a:Act} {Q:Exit→Act→World→Prop}
theorem app_ints (hgd:o.guard=none) (s x:Operand) (ho:o.op = .call { callee := .builtin .append,args := #[s,x],argTypes := #[144,144] })
  {B:Nat} {v:Value} {r:List Int} (hs:a.eval s=v) (hown:IntsV B w v r) {b:Nat} {z:Int} (hx:a.eval x = .slice (some ⟨b,0,none⟩) 1 1) (hc:w.cell? ⟨b,0,none⟩=some (I z)) (hl:r.length≤1000000000) (hB:B≤w.heap.size)
  (h : ∀ g cap w',IntsV B w' (slv g (r.length+1) cap) (r++[z])→Below B w w'→w.grownBy w' v.ownBlock→wpList Tryz.prog ops Q rest (a.put o.dst (slv g (r.length+1) cap)) w'):wpList Tryz.prog ops Q (o::rest) a w:=by
 obtain ⟨i0,hi,hz0,hz1,hz2⟩:=info_parts Tryz.infoStr
 refine wpList_append_lies w hgd s x 144 ho B 79 i0 _ 1 16 Tryz.underlying144 hi hz0 hz1 hz2 rfl (by omega) v r.length (ss r) hs hown ⟨b,0,none⟩ 1 1 [I z] hx rfl ?_ (one_str _) (by omega) (by unfold maxLen; omega) (by omega) hB w.heap.size rfl ?_
 ·intro j u hj
  have:j=0:=by have:=(List.getElem?_eq_some_iff.1 hj).1; simp at this; omega
  subst this
  simp only [List.getElem?_cons_zero,Option.some.injEq] at hj
  subst hj
  simpa [Addr.add_lit] using hc
 ·intro g cap w' h1 h2 h3 h4
  refine h g cap w' ?_ (Below.grown (Below.refl _ _) h2 hB (fun q hq=>(World.ownsRow.lt hown q hq).1)) h2
  unfold IntsV
  rw [ss_snoc,List.length_append]; exact h1
end
theorem xv_slice (n g c:Nat) : ∃ a l k,xv n g c = .slice a l k:=by
 unfold xv; split <;> exact ⟨_,_,_,rfl⟩
end Go.Proofs.YtjnpakablgommaaGreatDoor
namespace Go.Proofs.YtjnpakablgommaaGreatDoor
def pv (r:List Int):Nat:=r.findIdx fun z=>decide (z≠0)
def pvI (r:List Int):Int:=if pv r<r.length then (pv r:Int) else -1
theorem pv_le (r:List Int):pv r≤r.length:=List.findIdx_le_length
theorem pv_zero {r:List Int} {j:Nat} (h:j<pv r):r.getD j 0=0:=by
 have hl:j<r.length:=Nat.lt_of_lt_of_le h (pv_le r)
 have:=List.not_of_lt_findIdx (p:=fun z:Int=>decide (z≠0)) (xs:=r) h
 rw [getD_get hl]
 simpa using this
theorem pv_ne {r:List Int} (h:pv r<r.length):r.getD (pv r) 0≠0:=by
 have:=List.findIdx_getElem (xs:=r) (p:=fun z:Int=>decide (z≠0)) (w:=h)
 rw [getD_get h]
 simpa [pv] using this
theorem pvI_ix (r:List Int):IxR (fun i=>decide (r.getD i 0≠0)) r.length (pvI r):=by
 unfold pvI
 by_cases h:pv r<r.length
 ·rw [if_pos h]
  exact .inr ⟨pv r,h,rfl,decide_eq_true (pv_ne h),fun j hj=>decide_eq_false (by simpa using pv_zero hj)⟩
 ·rw [if_neg h]
  exact .inl ⟨rfl,fun i hi=>decide_eq_false (by simpa using pv_zero (by omega))⟩
theorem pv_of {r:List Int} {p:Nat} (hp:r.getD p 0≠0) (hz : ∀ j,j<p→r.getD j 0=0):pv r=p∧p<r.length:=by
 have hl:p<r.length:=by
  rcases Nat.lt_or_ge p r.length with h | h
  ·exact h
  ·rw [List.getD_eq_getElem?_getD,List.getElem?_eq_none h] at hp; exact absurd rfl hp
 refine ⟨?_,hl⟩
 rcases Nat.lt_trichotomy (pv r) p with h | h | h
 ·exact absurd (hz _ h) (pv_ne (by omega))
 ·exact h
 ·exact absurd (pv_zero h) hp
theorem getD_map {α β:Type} (f:α→β) (l:List α) (i:Nat) (h:i<l.length) (d:β) (e:α):(l.map f).getD i d=f (l.getD i e):=by
 rw [getD_get (by simpa using h),getD_get h]; simp
theorem isH_pv {n:Nat} {ps:List Nat} {M:Mx} (h:IsH n ps M):ps=M.map pv:=by
 refine List.ext_getElem (by rw [h.len]; simp) fun i h1 h2 => ?_
 have hi:i<M.length:=by simpa using h2
 have hp:=h.pos i hi
 have hl:=h.left i hi
 rw [getD_get h1] at hp hl
 have:=(pv_of (r:=M.getD i []) (p:=ps[i]) (by show eM M i ps[i]≠0; omega) (fun j hj=>hl j hj)).1
 rw [List.getElem_map, ← this,getD_get hi]
theorem take_snocM {F:Mx} {i:Nat} (h:i<F.length):F.take (i+1)=F.take i++[F[i]]:=List.take_succ_eq_append_getElem h
end Go.Proofs.YtjnpakablgommaaGreatDoor
namespace Go.Proofs.YtjnpakablgommaaGreatDoor
open Go.RowKit Go.Sort
open Hnf (V Span Ech Red)
def smallM (F:Mx):Bool:=F.all smallB
theorem fRows_get {d:Nat} {ls:List Ln} {i:Nat} (hi:i<d) (hd:d≤ls.length) (h:i<(fRows d ls).length):(fRows d ls)[i]=(ls.getD i default).1:=by
 simp only [fRows,List.getElem_map,List.getElem_take,getD_get (show i<ls.length by omega)]
theorem fRows_length {d:Nat} {ls:List Ln} (hd:d≤ls.length):(fRows d ls).length=d:=by unfold fRows; simp; omega
theorem Sl.ext' {w w':World} {ga:Option Addr} {gb go:Nat} {xs:List Value} (h:Sl w ga gb go xs) (he:Ext w w'):Sl w' ga gb go xs:=h.ext he
theorem smallM_not {F:Mx} {i:Nat} (h:i<F.length) (hs:smallB F[i]=false):smallM F=false:=by
 cases hm:smallM F
 ·rfl
 ·have:=List.all_eq_true.1 hm _ (List.getElem_mem h)
  rw [this] at hs; cases hs
theorem smallM_yes {F:Mx} (h : ∀ j (hj:j<F.length),smallB F[j]=true):smallM F=true:=by
 refine List.all_eq_true.2 fun r hr => ?_
 obtain ⟨j,hj,rfl⟩:=List.getElem_of_mem hr
 exact h j hj
end Go.Proofs.YtjnpakablgommaaGreatDoor
namespace Go.Proofs.YtjnpakablgommaaGreatDoor
open Go.RowKit Go.Sort
def hdX (n:Nat) (ad:List (Nat×Nat)):List Value:=ad.map fun a=>slv a.1 n a.2
@[simp] theorem hdX_length (n:Nat) (ad:List (Nat×Nat)):(hdX n ad).length=ad.length:=by simp [hdX]
theorem row_ownV {B:Nat} {w:World} {g cap n:Nat} {r:List Int} (h:RowV B w (slv g n cap) r) (hn:r.length=n):OwnV 3 B w g cap (is r):=by
 subst hn
 unfold RowV at h
 unfold OwnV
 rw [is_length]
 exact h
theorem heap_new (w:World) (o:Obj):(w.alloc o).heap[w.heap.size]? = some o:=by
 show (w.heap.push o)[w.heap.size]? = some o
 simp
theorem row_empty {w:World} {g:Nat} (h:w.heap[g]? = some (.cells #[] 3 (0,0))) {B:Nat} (hB:B≤g):RowV B w (.slice (some ⟨g,0,none⟩) 0 0) [] :=
 ⟨rfl,.inr ⟨g,0,#[],rfl,hB,h,Nat.le_refl _,Nat.zero_le _,rfl,rfl⟩⟩
theorem zero_row {B n g:Nat} {w:World} (h:w.ownsRow B 3 1 (.slice (some ⟨g,0,none⟩) n n) n (madeCells (Value.int .i64 0).cells (n*1)).toList):RowV B w (.slice (some ⟨g,0,none⟩) n n) (List.replicate n 0):=by
 unfold RowV
 have e:(madeCells (Value.int .i64 0).cells (n*1)).toList=is (List.replicate n 0):=by
  rw [show (Value.int .i64 0).cells = #[.int .i64 0] from rfl,toList_madeCells_one,Nat.mul_one]; simp [is]
 rw [List.length_replicate, ← e]
 exact h
section
variable {w:World} {ops:Array Oper} {rest:List Oper} {o:Oper} {a:Act} {Q:Exit→Act→World→Prop}
end
end Go.Proofs.YtjnpakablgommaaGreatDoor
