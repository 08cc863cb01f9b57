/- Part 17 of the proof of the claim: contracts of the functions that it reaches, and plain laws; no condition. -/
import Derived.Test.YtdmaofimeknkbaaGreatDoorQ16
import Derived.Test.YtdmaofimeknkbaaGreatDoorQ13
import Derived.Laws.CopyRow
import Derived.Test.YtdmaofimeknkbaaGreatDoorQ09
import Derived.Test.YtdmaofimeknkbaaGreatDoorQ08
import Derived.Test.YtdmaofimeknkbaaGreatDoorQ03
import Derived.Test.YtdmaofimeknkbaaGreatDoorQ14
import Derived.Deep.CutRange
set_option maxRecDepth 100000
set_option maxHeartbeats 20000000
namespace Go.Proofs.YtdmaofimeknkbaaGreatDoor
section
open Go.RowKit Go.Sort
theorem Tryz.infoRat:(Tryz.prog.info? 47).map (λi=>(i.zero,i.size,i.bytes))=some (some (.agg #[.string ⟨#[]⟩,.string ⟨#[]⟩]),2,32):=by kernel_rfl
theorem KpU (n:Nat) (e:Value):fl (List.replicate n (e,e))=List.replicate (n*2) e:=by
 induction n with
 | zero=>rfl
 | succ n ih=>rw [List.replicate_succ,Jk,ih,show (n+1)*2=n*2+1+1 by omega,List.replicate_succ,List.replicate_succ]
theorem Km4 (e:Value) (n:Nat):(madeCells #[e,e] n).toList=List.replicate n e:=by
 refine List.ext_getElem? λi => ?_
 rw [List.getElem?_replicate]
 by_cases h:i<n
 ·rw [if_pos h];simp only [madeCells,Array.toList_map,Array.toList_range,List.getElem?_map,List.getElem?_range h,Option.map_some]
  rcases Nat.mod_two_eq_zero_or_one i with h2 | h2<;>simp [h2]
 ·rw [if_neg h];simp [madeCells];omega
theorem KmM {B n g:Nat} {w:World} {e:Value} (h:w.ownsRow B 47 2 (.slice (some ⟨g,0,none⟩) n n) n (madeCells #[e,e] (n*2)).toList) (hn:n<=1000000):FrV B w g (List.replicate n (e,e)):=by
 obtain ⟨h1,h2 | ⟨g',cap,cur,hv,hB,hh,hc,hm,hs,ht⟩⟩:=h
 ·obtain ⟨h3,_⟩:=h2;simp at h3
 ·simp only [Value.slice.injEq,Option.some.injEq,Addr.mk.injEq,and_true,true_and] at hv;obtain ⟨rfl,_,rfl⟩:=hv;unfold FrV;rw [Km4] at ht;refine Kd.of hB hh (by rw [KbY];simp) (by rw [List.length_replicate];unfold maxLen;omega) (by rw [List.length_replicate];omega) ?_;rw [KbY,KpU,List.length_replicate,Nat.mul_comm 2 n];exact ht
def szc (l:List Rat):List Value:=fl (l.map λr=>qv (qR r))
theorem KkO (a b:List (Value×Value)):fl (a++b)=fl a++fl b:=by simp [fl]
theorem Kh4 (l:List Rat) (r:Rat):szc (l++[r])=szc l++[I r.num,I r.den]:=by
 unfold szc;rw [List.map_append,KkO];rfl
theorem KeD (l:List Rat):(szc l).length=2*l.length:=by unfold szc;rw [KbY,List.length_map]
theorem Kkg {l:List Rat} {i:Nat} (h:i<l.length):(szc l)[2*i]? = some (I l[i].num)/\(szc l)[2*i+1]? = some (I l[i].den):=by
 have h2:(l.map λr=>qv (qR r))[i]? = some (qv (qR l[i])):=by rw [List.getElem?_map,List.getElem?_eq_getElem h];rfl
 exact KiD _ i h2
def SzV (B:Nat) (w:World) (v:Value) (l:List Rat):Prop:=w.ownsRow B 47 2 v l.length (szc l)
theorem SzV.nil (B:Nat) (w:World):SzV B w (.slice none 0 0) []:=⟨rfl,.inl ⟨rfl,rfl⟩⟩
theorem SzV.ext {B:Nat} {w w':World} {v:Value} {l:List Rat} (h:SzV B w v l) (he:Ext w w'):SzV B w' v l:=KU h he
theorem SzV.mono {B B':Nat} {w:World} {v:Value} {l:List Rat} (h:SzV B w v l) (hB:B'<=B):SzV B' w v l:=QV h hB
def SzR (w:World) (v:Value) (l:List Rat):Prop := ∃sa gb go cap,v = .slice sa l.length cap/\l.length<=cap/\(0<l.length->sa=some ⟨gb,go,none⟩) /\ ∀i (h:i<l.length),w.cell? ⟨gb,go+i*2,none⟩=some (I l[i].num)/\w.cell? ⟨gb,go+i*2+1,none⟩=some (I l[i].den)
theorem SzR.ext {w w':World} {v:Value} {l:List Rat} (h:SzR w v l) (he:Ext w w'):SzR w' v l:=by
 obtain ⟨sa,gb,go,cap,e,hc,ha,hr⟩:=h;exact ⟨sa,gb,go,cap,e,hc,ha,λi hi=>⟨he.cell (hr i hi).1,he.cell (hr i hi).2⟩⟩
theorem SzV.read {B:Nat} {w:World} {v:Value} {l:List Rat} (h:SzV B w v l):SzR w v l:=by
 rcases h.2 with ⟨rfl,h0⟩ | ⟨g,cap,cur,rfl,hb,hg,hn,hm,hs,ht⟩
 ·refine ⟨none,0,0,0,by rw [h0],by omega,λh=>by omega,λi hi=>by omega⟩
 ·refine ⟨_,g,0,cap,rfl,hn,λ_=>rfl,λi hi => ?_⟩;obtain ⟨k1,k2⟩:=Kkg hi;have c1:=World.ownsRow.cellAt h (2*i) (by omega);have c2:=World.ownsRow.cellAt h (2*i+1) (by omega);rw [k1] at c1;rw [k2] at c2;rw [Nat.mul_comm i 2];exact ⟨by simpa using c1,by simpa using c2⟩
section
variable {w:World} {ops:Array Oper} {rest:List Oper} {o:Oper} {a:Act} {Q:Exit->Act->World->Prop}
theorem KfY (hgd:o.guard=none) (s x:Operand) (t:TypeId) (ht:Tryz.prog.underlying t=some (.slice 47)) (ho:o.op = .call { callee := .builtin .append,args := #[s,x],argTypes := #[t,t] })
  {B:Nat} {v:Value} {l:List Rat} {r:Rat} (hs:a.eval s=v) (hown:SzV B w v l) {b:Nat} (hx:a.eval x = .slice (some ⟨b,0,none⟩) 1 1) (c0:w.cell? ⟨b,0,none⟩=some (I r.num)) (c1:w.cell? ⟨b,1,none⟩=some (I r.den)) (hl:l.length<=1000000000) (hB:B<=w.heap.size)
  (h : ∀g cap w',SzV B w' (slv g (l.length+1) cap) (l++[r])->Below B w w'->w.grownBy w' v.ownBlock->wpList Tryz.prog ops Q rest (a.put o.dst (slv g (l.length+1) cap)) w'):wpList Tryz.prog ops Q (o::rest) a w:=by
 obtain ⟨i0,hi,hz0,hz1,hz2⟩:=info_parts Tryz.infoRat;refine wpList_append_lies w hgd s x t ho B 47 i0 _ 2 32 ht hi hz0 hz1 hz2 rfl (by omega) v l.length (szc l) hs hown ⟨b,0,none⟩ 1 1 [I r.num,I r.den] hx rfl ?_ ?_ (by omega) (by unfold maxLen;omega) (by omega) hB w.heap.size rfl ?_
 ·intro j u hj;rw [Lib.add_plain,Nat.zero_add]
  match j with
  | 0=>simp at hj;subst hj;exact c0
  | 1=>simp at hj;subst hj;exact c1
  | j+2=>simp at hj
 ·intro u hu;simp only [List.mem_cons,List.not_mem_nil,or_false] at hu
  rcases hu with rfl | rfl<;>rfl
 ·intro g cap w' k1 k2 k3 k4;refine h g cap w' ?_ (Below.grown (Below.refl _ _) k2 hB (λq hq=>(World.ownsRow.lt hown q hq).1)) k2;unfold SzV;rw [Kh4,List.length_append];exact k1
end
end
section
end
section
open Go.RowKit Go.Sort
abbrev RV (r:Rat):Value := .agg #[I r.num,I r.den]
def SmQ (r:Rat):Prop:=nd r.num<=100000000/\nd r.den<=100000000
theorem Kd7 {n d:Int} {r:Rat} (h:qmk n d=qR r):qn n d=r.num/\qd n d=r.den:=by
 unfold qmk qR at h;injection h with h1 h2
 exact ⟨h1,h2⟩
theorem den_pos' (r:Rat):(0:Int)<(r.den:Int):=by have:=r.den_pos;omega
theorem Kax {n d:Int} (hn : -9223372036854775808<=n/\n<=9223372036854775807) (hd : -9223372036854775808<=d/\d<=9223372036854775807) (h0:d≠0) {w:World} (hL:Laid w) :
  Calls Tryz.prog 8 #[.int .i64 n,.int .i64 d] w λe w'=>e = .returned (.tuple #[RV ((n:Rat)/(d:Rat)),.int .i64 0])/\Ext w w':=by
 have h:=Kc8 hn hd h0 hL;obtain ⟨e1,e2⟩:=Kd7 (Kbt (n:=n) h0);rw [e1,e2] at h;exact h
theorem KaY {a b:Rat} (ha:SmQ a) (hb:SmQ b) {w:World} (hL:Laid w) :
  Calls Tryz.prog 88 #[RV a,RV b] w λe w'=>e = .returned (RV (a*b))/\Ext w w':=by
 have h:=KmA ha.1 ha.2 hb.1 hb.2 (den_pos' a) (den_pos' b) hL;obtain ⟨e1,e2⟩:=Kd7 (Knk a b);simp only [qR] at e1 e2;rw [e1,e2] at h;exact h
theorem Jq {a b:Rat} (ha:SmQ a) (hb:SmQ b) {w:World} (hL:Laid w) :
  Calls Tryz.prog 43 #[RV a,RV b] w λe w'=>e = .returned (RV (a-b))/\Ext w w':=by
 have h:=KmB ha.1 ha.2 hb.1 hb.2 (den_pos' a) (den_pos' b) hL;have hq:=Knh a (-b);rw [show a + -b=a-b by grind] at hq;obtain ⟨e1,e2⟩:=Kd7 hq;simp only [qR,Rat.neg_num,Rat.neg_den] at e1 e2;rw [Int.neg_mul,<-Int.sub_eq_add_neg] at e1 e2;rw [e1,e2] at h;exact h
end
section
theorem Kp6:nd 0=1:=Lib.nDigits_small (u:=0) (by omega)
theorem Kp7:nd 1=1:=Lib.nDigits_small (u:=1) (by omega)
def NdQ (E:Nat) (r:Rat):Prop:=nd r.num<=E/\nd r.den<=E
theorem NdQ.mono {E F:Nat} {r:Rat} (h:NdQ E r) (hE:E<=F):NdQ F r:=⟨Nat.le_trans h.1 hE,Nat.le_trans h.2 hE⟩
theorem NdQ.smQ {E:Nat} {r:Rat} (h:NdQ E r) (hE:E<=100000000):SmQ r:=⟨Nat.le_trans h.1 hE,Nat.le_trans h.2 hE⟩
theorem NdQ.of_int {E:Nat} {k:Int} (h:nd k<=E):NdQ E (k:Rat):=by
 refine ⟨by simpa using h,?_⟩;have:=Km7 k;rw [show (((k:Rat).den:Nat):Int)=1 by simp];rw [Kp7];omega
theorem NdQ.zero {E:Nat} (h:1<=E):NdQ E 0:=by
 have:=NdQ.of_int (E:=E) (k:=0) (by rw [Kp6];exact h);simpa using this
theorem NdQ.one {E:Nat} (h:1<=E):NdQ E 1:=by
 have:=NdQ.of_int (E:=E) (k:=1) (by rw [Kp7];exact h);simpa using this
theorem NdQ.neg {E:Nat} {r:Rat} (h:NdQ E r):NdQ E (-r):=by
 unfold NdQ;rw [Rat.neg_num,Rat.neg_den,Kb4];exact h
theorem NdQ.mk {n d:Int} {r:Rat} {E:Nat} (h:qmk n d=qR r) (hn:nd n<=E) (hd:nd d<=E):NdQ E r:=by
 obtain ⟨e1,e2⟩:=Kd7 h;refine ⟨?_,?_⟩
 ·rw [<-e1];exact Nat.le_trans (Kq6 _ _) hn
 ·rw [<-e2];exact Nat.le_trans (Kq5 _ _) hd
theorem NdQ.add {E F:Nat} {a b:Rat} (ha:NdQ E a) (hb:NdQ F b):NdQ (E+F+1) (a+b):=by
 have h1:=QY a.num b.den;have h2:=QY b.num a.den;have h3:=QY a.den b.den;have h4:=KaX (a.num*b.den) (b.num*a.den);obtain ⟨a1,a2⟩:=ha;obtain ⟨b1,b2⟩:=hb;refine NdQ.mk (Knh a b) ?_ ?_
 ·show nd (a.num*b.den+b.num*a.den)<=_;omega
 ·show nd ((a.den:Int)*b.den)<=_;omega
theorem NdQ.sub {E F:Nat} {a b:Rat} (ha:NdQ E a) (hb:NdQ F b):NdQ (E+F+1) (a-b):=by
 rw [show a-b=a + -b by grind];exact ha.add hb.neg
theorem NdQ.mul {E F:Nat} {a b:Rat} (ha:NdQ E a) (hb:NdQ F b):NdQ (E+F) (a*b):=by
 have h1:=QY a.num b.num;have h3:=QY a.den b.den;obtain ⟨a1,a2⟩:=ha;obtain ⟨b1,b2⟩:=hb;refine NdQ.mk (Knk a b) ?_ ?_
 ·show nd (a.num*b.num)<=_;omega
 ·show nd ((a.den:Int)*b.den)<=_;omega
end
section
open Go.RowKit
open Lib (hid)
theorem Kky {u:Nat} (hu:Lib.nDigits u<=LIM) (w:World) :
  Calls Tryz.prog 157 #[D u] w λe w'=>e = .returned (.bool true)/\Ext w w':=by
 have hcv:=λ(w:World) (s:ByteArray)=>Lib.run_convert_string_bytes (P:=Tryz.prog) w 45 216 5 s Tryz.underlying45 Tryz.underlying216 Tryz.underlying5
 have hn:(Lib.decDigits u).length<=1000000000000:=by rw [Lib.decDigits_length];exact hu
 obtain ⟨c,l,e,hd,hz⟩:=Xa u;have hdd : ∀x∈(c::l),Z5 x:=e ▸ XQ u
 have hdj:l=[]\/((c.toNat:Int) != 48)=true:=by
  by_cases h:u=0
  ·subst h;rw [YR] at e;injection e with _ e;exact .inl e.symm
  ·exact .inr (by have:=hz h;simp [bne];omega)
 unfold D;rw [e] at hn ⊢;have Hdd:=hid hdd;have Hdj:=hid hdj;clear e hz hu hd hdd hdj
 go_enter Tryz.func157,Tryz.ntmps157
 go_wp2
 have hcl:=λj (hj:j<(c::l).length)=>Lib.bytesWorld_cell w 5 (⟨(c::l).toArray⟩:ByteArray) j (by simpa [ByteArray.size] using hj)
 have hEW:=Q3 w 5 (⟨(c::l).toArray⟩:ByteArray);have h2:(((⟨(c::l).toArray⟩:ByteArray)[0]'(by show 0<(c::l).toArray.size;simp)).toNat:Int)=c.toNat:=rfl;have H2:=hid h2;have Hcl:=hid hcl;clear hcl h2
 go_loop [8] (λi => ∃j:Nat,j<=(c::l).length/\i = .int .i64 j) (λi=>(c::l).length-(intOf i).toNat)
 case atStart=>exact ⟨0,Nat.zero_le _,rfl⟩
 case round =>
  obtain ⟨j,hj,rfl⟩:=hrel
  by_cases hlt:j<(c::l).length
  ·have hcell:=Hcl.out j hlt;have hdj:=Hdd.out _ (List.getElem_mem hlt);rw [show (⟨(c::l).toArray⟩:ByteArray).data.toList=c::l from rfl,List.getD_eq_getElem?_getD,List.getElem?_eq_getElem hlt,Option.getD_some] at hcell;generalize (c::l)[j]=x at *;have hb1 : ¬(x.toNat:Int)<48:=by have:=hdj.1;omega
   have hb2 : ¬(57:Int)<(x.toNat:Int):=by have:=hdj.2;omega
   clear hdj;have hlI:(j:Int)<(l.length:Int)+1:=by simp at hlt;omega
   have Hlt:=hid hlt;clear hlt
   go_wp2
   go_round
   case rel=>exact ⟨j+1,Hlt.out,by go_num⟩
   case measure=>have:=Hlt.out;simp [intOf];omega
  ·have hjM:j=l.length+1:=by simp at hj hlt;omega
   subst hjM;clear hlt hj;have h2:=H2.out
   rcases Hdj.out with hl | h48
   ·subst hl
    go_wp2
    go_ret;exact ⟨rfl,hEW⟩
   ·by_cases hl:l=[]
    ·subst hl
     go_wp2
     go_ret;exact ⟨rfl,hEW⟩
    ·have hl0:0<l.length:=List.length_pos_iff.2 hl;have hl1:((l.length:Int)+1==1)=false:=beq_eq_false_iff_ne.2 (by omega);have hl2:(1:Int)<(l.length:Int)+1:=by omega
     go_wp2
     go_ret;exact ⟨rfl,hEW⟩
theorem Kir {u:Nat} (hu:Lib.nDigits u<=400) (w:World) :
  Calls Tryz.prog 128 #[D u] w λe w'=>e = .returned (.int .i64 0)/\Ext w w':=by
 have hc:=hid (Kky (u:=u) (by unfold LIM;omega) w);have hn:(Lib.decDigits u).length<=400:=by rw [Lib.decDigits_length];exact hu
 clear hu;unfold D at hc ⊢;generalize Lib.decDigits u=l at *;have hI : ¬(400:Int)<(l.length:Int):=by omega
 go_enter Tryz.func128,Tryz.ntmps128
 go_wp2_with fail;refine hc.out.mono ?_;rintro e w1 ⟨rfl,hE1⟩;go_wp2_with fail;go_ret;exact ⟨rfl,hE1⟩
theorem KeM {z:Int} (hz:nd z<=400) (w:World) :
  Calls Tryz.prog 83 #[I z] w λe w'=>e = .returned (.int .i64 0)/\Ext w w':=by
 have hs:=hid (ZG (z:=z) (by unfold LIM;omega) w);have hd:=hid (λW=>Kir (u:=z.natAbs) hz W)
 by_cases hn:z<0
 ·have h0:(Lib.decDigits z.natAbs==[48])=false:=by rw [Q9];exact decide_eq_false (by omega)
  rw [decide_eq_true hn] at hs;unfold D at hs hd;generalize Lib.decDigits z.natAbs=l at *;clear hn hz
  go_enter Tryz.func83,Tryz.ntmps83
  go_wp2_with fail;refine hs.out.mono ?_;rintro e w1 ⟨rfl,hE1⟩;go_wp2_with fail;refine (hd.out _).mono ?_;rintro e w2 ⟨rfl,hE2⟩;go_wp2_with fail;go_ret;exact ⟨rfl,hE1.trans hE2⟩
 ·rw [decide_eq_false hn] at hs;unfold D at hs hd;generalize Lib.decDigits z.natAbs=l at *;clear hn hz
  go_enter Tryz.func83,Tryz.ntmps83
  go_wp2_with fail;refine hs.out.mono ?_;rintro e w1 ⟨rfl,hE1⟩;go_wp2_with fail;refine (hd.out _).mono ?_;rintro e w2 ⟨rfl,hE2⟩;go_wp2_with fail;go_ret;exact ⟨rfl,hE1.trans hE2⟩
end
section
open Go.RowKit Go.Sort
open Lib (hid)
theorem KiB {n d:Int} (hn:nd n<=400) (hd:nd d<=400) (h0:0<d) (hg:Nat.gcd n.natAbs d.natAbs=1) {w:World} (hL:Laid w) :
  Calls Tryz.prog 45 #[.agg #[I n,I d]] w λe w'=>e = .returned (.int .i64 0)/\Ext w w':=by
 have h1:=hid (λW=>KeM hn W);have h2:=hid (λW=>KeM hd W);have h3:=hid (λW=>ZJ (z:=d) W);rw [Int.sign_eq_one_of_pos h0] at h3;have h4:=hid (λW (hW:Ext w W)=>Kif (a:=n) (b:=d) (by unfold LIM;omega) (by unfold LIM;omega) (hL.ext hW));rw [hg,show I ((1:Nat):Int) = .string ⟨#[49]⟩ by unfold I S;rw [show ((1:Nat):Int)=1 from rfl,Yl]] at h4;have hX:Ext w (w.alloc (.cells #[I n,I d] 47)):=(Ext.refl w).alloc _;have HO:=Qq w 47 (I n) (I d);have c0:(w.alloc (.cells #[I n,I d] 47)).cell? ⟨w.heap.size,0,none⟩=some (I n):=HO.cell (j:=0) (by simp);have c1:(w.alloc (.cells #[I n,I d] 47)).cell? ⟨w.heap.size,1,none⟩=some (I d):=HO.cell (j:=1) (by simp);clear HO hn hd h0 hg hL
 go_enter Tryz.func45,Tryz.ntmps45
 go_wp2_with fail;refine (h1.out _).mono ?_;rintro e w1 ⟨rfl,hE1⟩;have c0:=hE1.cell c0;have c1:=hE1.cell c1;have e1:=hX.trans hE1;go_wp2_with fail;refine (h2.out _).mono ?_;rintro e w2 ⟨rfl,hE2⟩;have c0:=hE2.cell c0;have c1:=hE2.cell c1;have e2:=e1.trans hE2;go_wp2_with fail;refine (h3.out _).mono ?_;rintro e w3 ⟨rfl,hE3⟩;have c0:=hE3.cell c0;have c1:=hE3.cell c1;have e3:=e2.trans hE3;go_wp2_with fail;refine (h4.out _ e3).mono ?_;rintro e w4 ⟨rfl,hE4⟩;go_wp2_with fail;go_ret;exact ⟨rfl,e3.trans hE4⟩
section
variable {P:Program} {ops:Array Oper} {md:Region.Mode} {Q:Exit->Act->World->Prop} {S:World->Prop}
theorem Kf {n i f:Nat} {o:Oper} {L:Array Bool->Act->World->Prop} {listed:Array Bool} {a:Act} {w:World} (ho:ops[i]? = some o) (hr:(Region.ready md ops listed==[i]&&decide (i<n))=true) (inv:HeadInv md ops n listed)
  (h:HeadInv md ops n (listed.setIfInBounds i true) -> ∀K':Act->World->Prop,(∀a w,S w->Qe P md ops Q S n L f (listed.setIfInBounds i true) a w->K' a w)->if Region.wanted o (yielded ops a.tmps)=true then Oper.wp P o a w K' Q else K' (a.put o.dst undef) w):Qe P md ops Q S n L (f+1) listed a w:=by
 have h2:=hr;simp only [Bool.and_eq_true,decide_eq_true_eq,beq_iff_eq] at h2;exact Kh ho hr (h (inv.set (by rw [h2.1];simp) h2.2))
end
section
variable {P:Program} {ops:Array Oper} {md:Region.Mode} {Q:Exit->Act->World->Prop} {S:World->Prop}
theorem Kgy {n i j f:Nat} {o p:Oper} {L:Array Bool->Act->World->Prop} {listed:Array Bool} {a:Act} {w:World} (hi:ops[i]? = some o) (hj:ops[j]? = some p) (hr:(Region.ready md ops listed==[i,j]&&decide (i<n)&&decide (j<n))=true)
  (h1 : ∀K':Act->World->Prop,(∀a w,S w->Qe P md ops Q S n L f (listed.setIfInBounds i true) a w->K' a w)->if Region.wanted o (yielded ops a.tmps)=true then Oper.wp P o a w K' Q else K' (a.put o.dst undef) w)
  (h2 : ∀K':Act->World->Prop,(∀a w,S w->Qe P md ops Q S n L f (listed.setIfInBounds j true) a w->K' a w)->if Region.wanted p (yielded ops a.tmps)=true then Oper.wp P p a w K' Q else K' (a.put p.dst undef) w):Qe P md ops Q S n L (f+1) listed a w:=by
 simp only [Bool.and_eq_true,decide_eq_true_eq,beq_iff_eq] at hr;refine ⟨λh0=>(by rw [h0] at hr;cases hr.1.1),λk hk => ?_⟩;rw [hr.1.1] at hk;simp only [List.mem_cons,List.not_mem_nil,or_false] at hk
 rcases hk with rfl | rfl
 ·exact ⟨hr.1.2,wpOp_step hi (λK' hK=>h1 K' (λa w hS hW=>hK a w ⟨hS,hW⟩))⟩
 ·exact ⟨hr.2,wpOp_step hj (λK' hK=>h2 K' (λa w hS hW=>hK a w ⟨hS,hW⟩))⟩
theorem KZ {n i j f:Nat} {o p:Oper} {L:Array Bool->Act->World->Prop} {listed:Array Bool} {a:Act} {w:World} (hi:ops[i]? = some o) (hj:ops[j]? = some p) (hr:(Region.ready md ops listed==[i,j]&&decide (i<n)&&decide (j<n))=true) (inv:HeadInv md ops n listed)
  (h1:HeadInv md ops n (listed.setIfInBounds i true) -> ∀K':Act->World->Prop,(∀a w,S w->Qe P md ops Q S n L f (listed.setIfInBounds i true) a w->K' a w)->if Region.wanted o (yielded ops a.tmps)=true then Oper.wp P o a w K' Q else K' (a.put o.dst undef) w)
  (h2:HeadInv md ops n (listed.setIfInBounds j true) -> ∀K':Act->World->Prop,(∀a w,S w->Qe P md ops Q S n L f (listed.setIfInBounds j true) a w->K' a w)->if Region.wanted p (yielded ops a.tmps)=true then Oper.wp P p a w K' Q else K' (a.put p.dst undef) w):Qe P md ops Q S n L (f+1) listed a w:=by
 have hr2:=hr;simp only [Bool.and_eq_true,decide_eq_true_eq,beq_iff_eq] at hr2;exact Kgy hi hj hr (h1 (inv.set (by rw [hr2.1.1];simp) hr2.1.2)) (h2 (inv.set (by rw [hr2.1.1];simp) hr2.2))
end
def SzO (B:Nat) (w:World) (g:Nat) (l:List Rat):Prop:=Kd 47 B w g (2*l.length) (szc l)
theorem SzO.val {B:Nat} {w:World} {g:Nat} {l:List Rat} (h:SzO B w g l):SzV B w (slv g l.length l.length) l:=by
 obtain ⟨cur,h1,h2,h3,h4,h5,h6⟩:=Kd.parts h;rw [KeD] at h3 h6;refine ⟨by rw [KeD];omega,.inr ⟨g,l.length,cur,rfl,h1,h2,Nat.le_refl _,by omega,by omega,?_⟩⟩;rw [Nat.mul_comm];exact h6
theorem Ko3 (l:List Rat) (i:Nat) (r:Rat):((szc l).set (2*i) (I r.num)).set (2*i+1) (I r.den)=szc (l.set i r):=by
 unfold szc;have h:=KiE (l.map λr=>qv (qR r)) i (qv (qR r));rw [List.map_set];exact h
theorem Tryz.infoLong:(Tryz.prog.info? 152).map (λi=>(i.zero,i.size,i.bytes))=some (some (.slice none 0 0),1,24):=by kernel_rfl
structure LrX (B:Nat) (w:World) (v:Value) (F:Mx) (ad:List (Nat×Nat)):Prop where
 len:ad.length=F.length
 own:w.ownsRow B 152 1 v F.length (hdV ad F)
 row : ∀i (h:i<F.length) (h':i<ad.length),0<F[i].length->Kd 45 B w ad[i].1 ad[i].2 (ss F[i])
 dis : ∀i j (hi:i<ad.length) (hj:j<ad.length) (h:i<F.length) (h':j<F.length),0<F[i].length->0<F[j].length->i≠j->ad[i].1≠ad[j].1
theorem LrX.nil (B:Nat) (w:World):LrX B w (.slice none 0 0) [] [] :=
 ⟨rfl,⟨rfl,.inl ⟨rfl,rfl⟩⟩,(λi h=>by simp at h),(λi j h=>by simp at h)⟩
theorem LrX.ext {B:Nat} {w w':World} {v:Value} {F:Mx} {ad:List (Nat×Nat)} (h:LrX B w v F ad) (he:Ext w w'):LrX B w' v F ad :=
 ⟨h.len,KU h.own he,λi a b c=>(h.row i a b c).ext he,h.dis⟩
theorem LrX.shape {B:Nat} {w:World} {v:Value} {F:Mx} {ad:List (Nat×Nat)} (h:LrX B w v F ad) : ∃ga cap,v = .slice ga F.length cap/\F.length<=cap/\(0<F.length -> ∃g,ga=some ⟨g,0,none⟩):=by
 rcases h.own.2 with ⟨rfl,h0⟩ | ⟨g,cap,cur,rfl,hb,hg,hn,hm,hs,ht⟩
 ·rw [h0];exact ⟨none,0,rfl,Nat.le_refl _,λh=>by omega⟩
 ·exact ⟨_,cap,rfl,hn,λ_=>⟨g,rfl⟩⟩
theorem LrX.outer {B:Nat} {w:World} {g cap:Nat} {F:Mx} {ad:List (Nat×Nat)} (h:LrX B w (slv g F.length cap) F ad):Kd 152 B w g cap (hdV ad F):=by
 unfold Kd;rw [K5 _ _ h.len];exact h.own
theorem Kb5 {B B':Nat} {w:World} {g cap gx cx:Nat} {xs ys:List Value} (h:Kd 152 B w g cap xs) (h':Kd 45 B' w gx cx ys):gx≠g:=by
 intro e;exact Kd2 (u:=slv gx ys.length cx) (v:=slv g xs.length cap) h' h (by decide) (g:=gx) rfl (by rw [e];rfl)
theorem LrX.at {B:Nat} {w:World} {g cap n i:Nat} {F:Mx} {ad:List (Nat×Nat)} (h:LrX B w (slv g F.length cap) F ad) (hR:Ku n F) (hn:0<n) (hi:i<F.length) :
  ∃gx cx,ad[i]? = some (gx,cx)/\w.cell? ⟨g,i,none⟩=some (slv gx n cx)/\Kd 45 B w gx cx (ss (F.getD i []))/\gx≠g/\(F.getD i []).length=n:=by
 have hi':i<ad.length:=by rw [h.len];exact hi
 have hl:F[i].length=n:=hR _ (List.getElem_mem hi);have hO:=h.row i hi hi' (by omega);refine ⟨ad[i].1,ad[i].2,by rw [List.getElem?_eq_getElem hi'],?_,?_,Kb5 h.outer hO,by rw [Ka hi];exact hl⟩
 ·have hg:=XT ad F i hi' hi;obtain ⟨hlt,he⟩:=List.getElem?_eq_some_iff.1 hg;rw [h.outer.cell (j:=i) hlt,he,hl,Qo hn]
 ·rw [Ka hi];exact hO
theorem LrX.wrote {B:Nat} {w w':World} {g cap i gx cx:Nat} {F:Mx} {ad:List (Nat×Nat)} {r:List Int} (h:LrX B w (slv g F.length cap) F ad) (hi:i<F.length) (ha:ad[i]? = some (gx,cx)) (hr:r.length=(F.getD i []).length) (hr0:0<r.length)
  (hO:Kd 45 B w' gx cx (ss r)) (hC:Chg (λk=>k=gx) w w'):LrX B w' (slv g F.length cap) (F.set i r) ad:=by
 have hi':i<ad.length:=by rw [h.len];exact hi
 rw [Ka hi] at hr;rw [List.getElem?_eq_getElem hi'] at ha;have ea:=Option.some.inj ha;have hOi:=h.row i hi hi' (by omega)
 have hg:g≠gx:=by
  have:=Kb5 h.outer hOi;rw [ea] at this;exact Ne.symm this
 have hOut:=hC.own hg h.outer
 have hh:hdV ad (F.set i r)=hdV ad F:=by
  have e:ad=ad.set i ad[i]:=(List.set_getElem_self hi').symm;have:=YA ad F i ad[i] r;rw [<-e] at this;rw [this];have hg2:=XT ad F i hi' hi;obtain ⟨hlt,he⟩:=List.getElem?_eq_some_iff.1 hg2;rw [hr,<-he,List.set_getElem_self]
 refine ⟨by rw [List.length_set];exact h.len,?_,λj hj hj' hj0 => ?_,λj k hj hk hj2 hk2 hj0 hk0 hjk => ?_⟩
 ·unfold Kd at hOut;rw [K5 _ _ h.len] at hOut;rw [List.length_set,hh];exact hOut
 ·rw [List.length_set] at hj
  by_cases hij:i=j
  ·subst hij;simp only [List.getElem_set_self];rw [ea];exact hO
  ·simp only [List.getElem_set_ne hij] at hj0 ⊢;have:=h.dis j i hj' hi' hj hi hj0 (by omega) (Ne.symm hij);rw [ea] at this;exact hC.own this (h.row j hj hj' hj0)
 ·rw [List.length_set] at hj2 hk2;refine h.dis j k hj hk hj2 hk2 ?_ ?_ hjk
  ·by_cases hij:i=j
   ·subst hij;omega
   ·simpa only [List.getElem_set_ne hij] using hj0
  ·by_cases hij:i=k
   ·subst hij;omega
   ·simpa only [List.getElem_set_ne hij] using hk0
theorem LrX.swapped {B:Nat} {w:World} {g cap n i j gi ci gj cj:Nat} {F:Mx} {ad:List (Nat×Nat)} (h:LrX B w (slv g F.length cap) F ad) (hR:Ku n F) (hn:0<n) (hi:i<F.length) (hj:j<F.length) (hai:ad[i]? = some (gi,ci)) (haj:ad[j]? = some (gj,cj)) :
  LrX B ((w.setCell ⟨g,i,none⟩ (slv gj n cj)).setCell ⟨g,j,none⟩ (slv gi n ci)) (slv g F.length cap) (sw2 F [] i j) (sw2 ad (0,0) i j)
   /\ w.grownBy ((w.setCell ⟨g,i,none⟩ (slv gj n cj)).setCell ⟨g,j,none⟩ (slv gi n ci)) (some g)/\Ku n (sw2 F [] i j):=by
 have hi':i<ad.length:=by rw [h.len];exact hi
 have hj':j<ad.length:=by rw [h.len];exact hj
 have h1:=h.outer.set i (slv gj n cj);have h2:=h1.1.set j (slv gi n ci);have hG:=Kg h1.2 h2.2;have ei:ad.getD i (0,0)=(gi,ci):=by rw [List.getD_eq_getElem?_getD,hai];rfl
 have ej:ad.getD j (0,0)=(gj,cj):=by rw [List.getD_eq_getElem?_getD,haj];rfl
 have fi:(F.getD i []).length=n:=by rw [Ka hi];exact hR _ (List.getElem_mem hi)
 have fj:(F.getD j []).length=n:=by rw [Ka hj];exact hR _ (List.getElem_mem hj)
 have eh:hdV (sw2 ad (0,0) i j) (sw2 F [] i j)=((hdV ad F).set i (slv gj n cj)).set j (slv gi n ci):=by
  unfold sw2;rw [YA,YA,ei,ej,fi,fj,Qo hn,Qo hn]
 have hR2:Ku n (sw2 F [] i j):=λs hs=>by
  obtain ⟨t,ht,rfl⟩:=List.getElem_of_mem hs;rw [KS F [] hi hj ht];exact hR _ (List.getElem_mem _)
 refine ⟨⟨by simp [h.len],?_,λt ht ht' ht0 => ?_,λt u ht hu ht2 hu2 ht0 hu0 htu => ?_⟩,hG,hR2⟩
 ·have:=h2.1;unfold Kd at this;rw [<-eh,K5 _ _ (by simp [h.len]),Qi] at this;rw [Qi];exact this
 ·rw [KS F [] hi hj ht] at ht0 ⊢;rw [KS ad (0,0) hi' hj' ht'];have ht2:t<F.length:=by simpa using ht
  have hO:=h.row (sg i j t) (Y5 hi hj ht2) (Y5 hi' hj' (by simpa using ht')) ht0;exact hO.other hG (Kb5 h.outer hO)
 ·rw [KS F [] hi hj ht2] at ht0;rw [KS F [] hi hj hu2] at hu0;rw [KS ad (0,0) hi' hj' ht,KS ad (0,0) hi' hj' hu];exact h.dis _ _ _ _ (Y5 hi hj (by simpa using ht2)) (Y5 hi hj (by simpa using hu2)) ht0 hu0 (λe=>htu (Ki6 e))
def KaF (w:World) (v:Value) (M:Mx):Prop := ∃sa gb go cap vs,v = .slice sa M.length cap/\M.length<=cap/\vs.length=M.length/\Sl w sa gb go vs /\ ∀i (h:i<M.length) (h':i<vs.length),Z0 w vs[i] M[i]
theorem LrX.gridR {B:Nat} {w:World} {v:Value} {F:Mx} {ad:List (Nat×Nat)} (h:LrX B w v F ad):KaF w v F:=by
 have hr : ∀i (_:i<F.length) (h':i<(hdV ad F).length),Z0 w (hdV ad F)[i] F[i]:=λi a b=>by
  have hi':i<ad.length:=by rw [h.len];exact a
  have hg:=XT ad F i hi' a;obtain ⟨_,he⟩:=List.getElem?_eq_some_iff.1 hg;rw [he]
  rcases Nat.eq_zero_or_pos F[i].length with hn | hn
  ·rw [List.eq_nil_of_length_eq_zero hn];exact ⟨none,0,0,0,rfl,Nat.le_refl _,Sl.nil _ _ _ _⟩
  ·rw [Qo hn];exact (h.row i a hi' hn).intsR rfl
 rcases h.own.2 with ⟨rfl,h0⟩ | ⟨g,cap,cur,rfl,hb,hg,hn,hm,hs,ht⟩
 ·have hF:F=[]:=List.eq_nil_of_length_eq_zero h0;subst hF;exact ⟨none,0,0,0,[],rfl,Nat.le_refl _,rfl,Sl.nil _ _ _ _,λi h=>by simp at h⟩
 ·exact ⟨_,g,0,cap,hdV ad F,rfl,hn,K5 _ _ h.len,h.outer.sl,hr⟩
section
variable {w:World} {ops:Array Oper} {rest:List Oper} {o:Oper} {a:Act} {Q:Exit->Act->World->Prop}
theorem Ke5 (hgd:o.guard=none) (s x:Operand) (ho:o.op = .call { callee := .builtin .append,args := #[s,x],argTypes := #[118,118] })
  {B:Nat} {v:Value} {F:Mx} {r:List Int} {ad:List (Nat×Nat)} {g0 c0:Nat} (hs:a.eval s=v) (hown:LrX B w v F ad) {b:Nat} (hx:a.eval x = .slice (some ⟨b,0,none⟩) 1 1) (hc:w.cell? ⟨b,0,none⟩=some (xv r.length g0 c0)) (hr:0<r.length->Kd 45 B w g0 c0 (ss r)) (hnew:0<r.length -> ∀i (h:i<ad.length) (h':i<F.length),0<F[i].length->ad[i].1≠g0) (hl:F.length<=1000000000) (hB:B<=w.heap.size)
  (h : ∀g cap w',LrX B w' (slv g (F.length+1) cap) (F++[r]) (ad++[(g0,c0)])->Below B w w'->w.grownBy w' v.ownBlock->wpList Tryz.prog ops Q rest (a.put o.dst (slv g (F.length+1) cap)) w'):wpList Tryz.prog ops Q (o::rest) a w:=by
 obtain ⟨i0,hi,hz0,hz1,hz2⟩:=info_parts Tryz.infoLong;obtain ⟨hlen,h2,h3,hdis⟩:=hown;refine wpList_append_lies w hgd s x 118 ho B 152 i0 _ 1 24 Tryz.underlying118 hi hz0 hz1 hz2 rfl (by omega) v F.length (hdV ad F) hs h2 ⟨b,0,none⟩ 1 1 [xv r.length g0 c0] hx rfl ?_ ?_ (by omega) (by unfold maxLen;omega) (by omega) hB w.heap.size rfl ?_
 ·intro j u hj;have:j=0:=by have:=(List.getElem?_eq_some_iff.1 hj).1;simp at this;omega
  subst this;simp only [List.getElem?_cons_zero,Option.some.injEq] at hj;subst hj;simpa [Addr.add_lit] using hc
 ·intro u hu;simp only [List.mem_cons,List.not_mem_nil,or_false] at hu;subst hu;unfold xv;split<;>rfl
 ·intro g cap w' k1 k2 k3 k4
  have hkeep : ∀{u cu:Nat} {l:List Int},Kd 45 B w u cu (ss l)->Kd 45 B w' u cu (ss l):=λ{u cu l} hu=>by
   have h5:w.ownsRow B 45 1 (slv u (ss l).length cu) (ss l).length (ss l):=hu;exact Ks h5 h2 (by decide) k2
  refine h g cap w' ⟨by simp [hlen],?_,λi hi1 hi2 hi0 => ?_,λi j hi1 hj1 hi2 hj2 hi0 hj0 hij => ?_⟩ (Below.grown (Below.refl _ _) k2 hB (λq hq=>(World.ownsRow.lt h2 q hq).1)) k2
  ·rw [List.length_append,KdM ad F (g0,c0) r hlen];exact k1
  ·rcases Nat.lt_or_ge i F.length with hlt | hge
   ·simp only [List.getElem_append_left hlt,List.getElem_append_left (show i<ad.length by omega)] at hi0 ⊢;exact hkeep (h3 i hlt (by omega) hi0)
   ·have hie:i=F.length:=by simp at hi1;omega
    subst hie;simp only [List.getElem_append_right (Nat.le_refl F.length),List.getElem_append_right (show ad.length<=F.length by omega),hlen,Nat.sub_self,List.getElem_cons_zero] at hi0 ⊢;exact hkeep (hr hi0)
  ·rw [List.length_append,List.length_singleton] at hi1 hj1 hi2 hj2
   rcases Nat.lt_or_ge i ad.length with hil | hig
   ·rw [List.getElem_append_left hil];rw [List.getElem_append_left (show i<F.length by omega)] at hi0
    rcases Nat.lt_or_ge j ad.length with hlt | hge
    ·rw [List.getElem_append_left hlt];rw [List.getElem_append_left (show j<F.length by omega)] at hj0;exact hdis i j (by omega) hlt (by omega) (by omega) hi0 hj0 hij
    ·have hje:j=ad.length:=by omega
     subst hje;rw [List.getElem_append_right (Nat.le_refl _)];rw [Kdf F r _ hlen] at hj0;simp only [Nat.sub_self,List.getElem_cons_zero];exact hnew hj0 i hil (by omega) hi0
   ·have hie:i=ad.length:=by omega
    subst hie;rw [List.getElem_append_right (Nat.le_refl _),List.getElem_append_left (show j<ad.length by omega)];rw [List.getElem_append_left (show j<F.length by omega)] at hj0;rw [Kdf F r _ hlen] at hi0;simp only [Nat.sub_self,List.getElem_cons_zero];exact Ne.symm (hnew hi0 j (by omega) (by omega) hj0)
end
def OwQ (B:Nat) (w:World) (g c:Nat) (l:List Rat):Prop:=w.ownsRow B 47 2 (slv g l.length c) l.length (szc l)
section
variable {B g c:Nat} {w w':World} {l:List Rat}
theorem OwQ.ext (h:OwQ B w g c l) (he:Ext w w'):OwQ B w' g c l:=KU h he
theorem OwQ.mono {B':Nat} (h:OwQ B w g c l) (hB:B'<=B):OwQ B' w g c l:=QV h hB
theorem OwQ.lt (h:OwQ B w g c l):B<=g/\g<w.heap.size:=World.ownsRow.lt h g rfl
theorem OwQ.other {r:Nat} (h:OwQ B w g c l) (hg:w.grownBy w' (some r)) (hne:g≠r):OwQ B w' g c l :=
 World.ownsRow.kept h hg (.inr (by simp [Value.ownBlock,hne]))
theorem OwQ.cells (h:OwQ B w g c l) {i:Nat} (hi:i<l.length):w.cell? ⟨g,i*2,none⟩=some (I l[i].num)/\w.cell? ⟨g,i*2+1,none⟩=some (I l[i].den):=by
 obtain ⟨k1,k2⟩:=Kkg hi;rw [Nat.mul_comm i 2];exact ⟨by rw [World.ownsRow.cellAt h (2*i) (by omega)];exact k1,by rw [World.ownsRow.cellAt h (2*i+1) (by omega)];exact k2⟩
theorem OwQ.frozen (h:OwQ B w g c l) (j:Nat):w.frozen? ⟨g,j,none⟩=false:=World.ownsRow.frozenAt h j
theorem OwQ.cap (h:OwQ B w g c l):l.length<=c:=by
 rcases h.2 with ⟨e,_⟩ | ⟨g',cap,cur,e,_,_,hn,_⟩
 ·cases e
 ·injection e with _ _ e3
  omega
theorem OwQ.set2 (h:OwQ B w g c l) (j:Nat) (r:Rat) :
  OwQ B ((w.setCell ⟨g,j*2,none⟩ (I r.num)).setCell ⟨g,j*2+1,none⟩ (I r.den)) g c (l.set j r)/\w.grownBy ((w.setCell ⟨g,j*2,none⟩ (I r.num)).setCell ⟨g,j*2+1,none⟩ (I r.den)) (some g):=by
 obtain ⟨h1,g1⟩:=World.ownsRow.stored h (j*2) (I r.num);obtain ⟨h2,g2⟩:=World.ownsRow.stored h1 (j*2+1) (I r.den);rw [Nat.mul_comm j 2,Ko3] at h2;refine ⟨?_,Kg g1 g2⟩;unfold OwQ;rw [List.length_set,Nat.mul_comm j 2];exact h2
theorem OwQ.chg {R:Nat->Prop} (h:OwQ B w g c l) (hC:Chg R w w') (hg : ¬R g):OwQ B w' g c l:=by
 refine ⟨h.1,?_⟩
 rcases h.2 with ⟨e,_⟩ | ⟨g',cap,cur,e,hb,hh,k⟩
 ·cases e
 ·refine .inr ⟨g',cap,cur,e,hb,?_,k⟩;injection e with e1 e2 e3
  injection e1 with e1
  injection e1 with e1
  subst e1;rw [hC.block g h.lt.2 hg];exact hh
end
end
end Go.Proofs.YtdmaofimeknkbaaGreatDoor
