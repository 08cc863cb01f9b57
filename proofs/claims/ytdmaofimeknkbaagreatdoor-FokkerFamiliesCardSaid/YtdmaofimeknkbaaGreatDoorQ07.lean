/- Part 7 of the proof of the claim: contracts of the functions that it reaches, and plain laws; no condition. -/
import Derived.Test.YtdmaofimeknkbaaGreatDoorQ02
import Derived.Lib.ItoaMem
import Derived.Test.YtdmaofimeknkbaaGreatDoorQ06
import Derived.Lib.QuietBelow
set_option maxRecDepth 100000
set_option maxHeartbeats 20000000
namespace Go.Proofs.YtdmaofimeknkbaaGreatDoor
section
open Go.RowKit Go.Sort
open Lib (hid)
theorem Khc (w:World) (T:TypeId) (k:Nat) (hs:k<=24):Holds (λ(b:UInt8)=>Value.int .u8 (b.toNat:Int)) (w.alloc (.cells Lib.zeros24 T)) w.heap.size 0 (Array.replicate k (0:UInt8)):=λj hj=>by
 have hj':j<k:=by simpa using hj
 refine ⟨?_,World.frozen?_alloc_new _ _ _ _⟩;rw [World.cell?_alloc_new,Lib.zeros24_at _ (by omega),getElem!_pos _ j hj];simp
theorem KmI (w:World) (o:Obj) (dk:Array UInt8) (k:Nat):Ext w ((putRow (λ(b:UInt8)=>Value.int .u8 (b.toNat:Int)) (w.alloc o) w.heap.size 0 dk).drewN k):=by
 rw [alloc_eq_grow];obtain ⟨os',_,e⟩:=putRow_grow_new (λ(b:UInt8)=>Value.int .u8 (b.toNat:Int)) w #[o] w.heap.size 0 dk (Nat.le_refl _);rw [e];exact Kg6 w k os'
theorem KeP {u : Nat} (hu : u < 18446744073709551616) {w : World} (hL : Laid w) :
    Calls Tryz.prog 181 #[.int .u64 u,.int .i64 10] w λe w'=>e = .returned (D u)/\Ext w w':=by
  by_cases hs:u<100
  · clear hu
    go_enter Tryz.func181,Tryz.ntmps181
    go_wp2_with (go_at_call 152;refine (Tryz.internal_strconv_small u hs _).mono ?_;rintro e w' ⟨rfl,rfl⟩)
    go_ret;exact ⟨rfl,Ext.refl _⟩
  · have hu1:1<=u:=by omega
    have htab:=hid hL.tab;clear hL;have hnd20:Lib.nDigits u<=20:=KP (k:=20) (by omega) (by omega);have hb3:Lib.nDigits u<=24:=by omega
    have hal:Tryz.prog.arrayLen 213=24:=by kernel_rfl
    have hsl1 : ∀W,(Instr.sliceAt 213 (.pointer (some ⟨w.heap.size,0,none⟩)) none (some (.int .i64 (Lib.nDigits u:Int))) none).run Tryz.prog W = .ok (.slice (some ⟨w.heap.size,0,none⟩) (Lib.nDigits u) 24) W:=λW=>by
      rw [run_sliceAt_array_h W 213 ⟨w.heap.size,0,none⟩ (by simp [Program.arrayLen,Program.elem,Tryz.underlying213]) .i64 (Lib.nDigits u:Int) (by omega) (by rw [hal];omega)];go_simp
    have hH0:=Khc w 213 (Lib.nDigits u) hb3;have hfmt:=Tryz.internal_strconv_formatBase10 w.heap.size 0 24 u (Array.replicate (Lib.nDigits u) 0) (w.alloc (.cells Lib.zeros24 213)) hH0 (by rw [Array.size_replicate];exact Lib.lt_pow_nDigits u) hu (by rw [Array.size_replicate];omega);rw [Array.size_replicate] at hfmt;have HH0:=hid hH0;have Hfmt:=hid hfmt;clear hH0 hal hfmt
    go_enter Tryz.func181,Tryz.ntmps181
    go_wp2_with (first
      | (go_at_call 153;refine (Tryz.internal_strconv_numDigits u hu1 hu _ (Lib.tabIs_alloc htab.out _)).mono ?_;rintro e w' ⟨rfl,rfl⟩))
    go_at_call 154
    refine Hfmt.out.mono ?_;rintro e w' ⟨rfl,k,v',dk,rfl,hF⟩
    have hcv:(convert 216 9 (.slice (some ⟨w.heap.size,0,none⟩) (Lib.nDigits u) 24)).run Tryz.prog ((putRow (λ(b:UInt8)=>Value.int .u8 (b.toNat:Int)) (w.alloc (.cells Lib.zeros24 213)) w.heap.size 0 dk).drewN k) = .ok (.string ⟨(Lib.decDigits u).toArray⟩) ((putRow (λ(b:UInt8)=>Value.int .u8 (b.toNat:Int)) (w.alloc (.cells Lib.zeros24 213)) w.heap.size 0 dk).drewN k):=by
      have h:=run_convert_bytes_back (P:=Tryz.prog) ((putRow (λ(b:UInt8)=>Value.int .u8 (b.toNat:Int)) (w.alloc (.cells Lib.zeros24 213)) w.heap.size 0 dk).drewN k) 216 9 5 ⟨w.heap.size,0,none⟩ 24 (Lib.decDigits u) Tryz.underlying216 Tryz.underlying5 Tryz.underlying9 (λj hj=>by
        rw [Lib.row_is_numeral hF j hj,Lib.add_plain,World.cell?_drewN]
        exact cell?_putRow (λ(b:UInt8)=>Value.int .u8 (b.toNat:Int)) _ w.heap.size 0 _ dk HH0.out (by rw [hF.size,Array.size_replicate]) j (by rw [hF.size];rw [Lib.decDigits_length] at hj;exact hj))
      rw [Lib.decDigits_length] at h;exact h
    go_wp2
    go_ret;exact ⟨rfl,KmI w _ dk k⟩
theorem Kan {u:Nat} (hu:u<18446744073709551616) {w:World} (hL:Laid w) :
  Calls Tryz.prog 140 #[.int .u64 u] w λe w'=>e = .returned (D u)/\Ext w w':=by
 have H:=hid (KeP hu hL);clear hu hL
 go_enter Tryz.func140,Tryz.ntmps140
 go_wp2_with (first | (go_at_call 181;refine H.out.mono ?_;rintro e w1 ⟨rfl,hb1⟩) | go_in)
 go_ret;exact ⟨rfl,hb1⟩
theorem Ka9 {u v:Nat} (hu:Lib.nDigits u<=18) (hv:Lib.nDigits v<=18) (w:World) :
  Calls Tryz.prog 139 #[D u,D v] w λe w'=>e = .returned (.tuple #[.int .u64 u,.int .u64 v,.bool true])/\Ext w w':=by
 have h1:=KE hu;have h2:=KE hv;have H1:=hid (Kfc (u:=u) (by omega));have H2:=hid (Kfc (u:=v) (by omega));have hu' : ¬(18:Int)<((Lib.decDigits u).length:Int):=by rw [Lib.decDigits_length];omega
 have hv' : ¬(18:Int)<((Lib.decDigits v).length:Int):=by rw [Lib.decDigits_length];omega
 clear h1 h2 hu hv
 go_enter Tryz.func139,Tryz.ntmps139
 go_wp2_with fail;refine (H1.out _).mono ?_;rintro e w1 ⟨rfl,hb1⟩;go_wp2_with fail;refine (H2.out _).mono ?_;rintro e w2 ⟨rfl,hb2⟩;go_wp2_with fail
 go_ret3
 exact ⟨rfl,hb1.trans hb2⟩
theorem Kf0 {u v:Nat} (hlu:Lib.nDigits u<=LIM) (hlv:Lib.nDigits v<=LIM) (h:18<Lib.nDigits u\/18<Lib.nDigits v) (w:World) :
  Calls Tryz.prog 139 #[D u,D v] w λe w'=>e = .returned (.tuple #[.int .u64 0,.int .u64 0,.bool false])/\Ext w w':=by
 have b1:(Lib.decDigits u).length<=1000000000000:=by rw [Lib.decDigits_length];exact hlu
 have b2:(Lib.decDigits v).length<=1000000000000:=by rw [Lib.decDigits_length];exact hlv
 rw [<-Lib.decDigits_length,<-Lib.decDigits_length v] at h;unfold D;clear hlu hlv;generalize Lib.decDigits u=l at *;generalize Lib.decDigits v=m at *
 by_cases h1:18<l.length
 ·have h1':(18:Int)<(l.length:Int):=by omega
  clear h h1
  go_enter Tryz.func139,Tryz.ntmps139
  go_wp2
  go_ret3
  exact ⟨rfl,Ext.refl _⟩
 ·have h1' : ¬(18:Int)<(l.length:Int):=by omega
  have h2':(18:Int)<(m.length:Int):=by omega
  clear h h1
  go_enter Tryz.func139,Tryz.ntmps139
  go_wp2
  go_ret3
  exact ⟨rfl,Ext.refl _⟩
end
section
open Go.RowKit
open Lib (hid)
theorem KaJ : ∀(l m:List UInt8),l.length=m.length->(∀c∈l,Z5 c)->(∀c∈m,Z5 c)->Op.bytesLess l m=decide (Zp 0 l<Zp 0 m)
 | [],[],_,_,_=>by simp [Op.bytesLess]
 | [],_::_,h,_,_=>by simp at h
 | _::_,[],h,_,_=>by simp at h
 | c::l,d::m,h,h1,h2=>by
  have hl:l.length=m.length:=by simpa using h
  have h1' : ∀x∈l,Z5 x:=λx hx=>h1 x (by simp [hx])
  have h2' : ∀x∈m,Z5 x:=λx hx=>h2 x (by simp [hx])
  have ih:=KaJ l m hl h1' h2';obtain ⟨_,a2,a3⟩:=KdG (h1 c (by simp));obtain ⟨_,b2,b3⟩:=KdG (h2 d (by simp));have v1:=KbJ l h1';have v2:=KbJ m h2';rw [QE,QE,Y7 l,Y7 m,<-hl];simp only [Nat.mul_zero,Nat.zero_add];rw [<-hl] at v2;simp only [Op.bytesLess,ih];generalize 10^l.length=P at *;generalize hc:dv c=x at *;generalize hd:dv d=y at *;generalize Zp 0 l=p at *;generalize Zp 0 m=q at *;have e1:(c<d)↔x<y:=by rw [UInt8.lt_iff_toNat_lt];omega
  have e2:(c==d)=decide (x=y):=by
   by_cases hxy:x=y
   ·rw [decide_eq_true hxy,beq_iff_eq];exact UInt8.toNat_inj.1 (by omega)
   ·rw [decide_eq_false hxy,beq_eq_false_iff_ne];intro hcd;subst hcd;omega
  rw [e2]
  rcases Nat.lt_trichotomy x y with hlt | heq | hgt
  ·have:(x+1)*P<=y*P:=Nat.mul_le_mul_right P hlt;rw [Nat.add_mul] at this;rw [decide_eq_true (e1.2 hlt),Bool.true_or,eq_comm,decide_eq_true_eq];omega
  ·subst heq;rw [decide_eq_false (λh=>by have:=e1.1 h;omega)];simp
  ·have:(y+1)*P<=x*P:=Nat.mul_le_mul_right P hgt;rw [Nat.add_mul] at this;rw [decide_eq_false (λh=>by have:=e1.1 h;omega),decide_eq_false (by omega)];simp;omega
theorem KgZ {u v:Nat} (h:Lib.nDigits u=Lib.nDigits v):Op.bytesLess (Lib.decDigits u) (Lib.decDigits v)=decide (u<v):=by
 rw [KaJ _ _ (by rw [Lib.decDigits_length,Lib.decDigits_length,h]) (XQ u) (XQ v),ZP,ZP]
theorem Kpq {u v:Nat} (h:Lib.nDigits u<Lib.nDigits v):u<v:=by
 refine Nat.lt_of_not_le λhc => ?_
 have:=Qx hc;omega
theorem XP {u v:Nat} (hu:Lib.nDigits u<=LIM) (hv:Lib.nDigits v<=LIM) (w:World) :
  Calls Tryz.prog 130 #[D u,D v] w λe w'=>e = .returned (.int .i64 (Zr u v))/\Ext w w':=by
 have m1:(Lib.decDigits u).length<=1000000000000:=by rw [Lib.decDigits_length];exact hu
 have m2:(Lib.decDigits v).length<=1000000000000:=by rw [Lib.decDigits_length];exact hv
 rcases Nat.lt_trichotomy (Lib.nDigits u) (Lib.nDigits v) with hl | hl | hl
 ·have hlt:=Kpq hl;have hr:Zr u v = -1:=by unfold Zr;rw [if_pos hlt]
  rw [<-Lib.decDigits_length,<-Lib.decDigits_length] at hl;rw [hr];clear hr hlt hu hv;unfold D;generalize Lib.decDigits u=a at *;generalize Lib.decDigits v=b at *;have t1:((a.length:Int) != (b.length:Int))=true:=by rw [bne_iff_ne];omega
  have t2:min (1:Int) (max (-1) ((a.length:Int)-b.length)) = -1:=by omega
  have T2:=hid t2;clear t2
  go_enter Tryz.func130,Tryz.ntmps130
  go_wp2
  go_ret;exact ⟨KN (congrArg (Value.int .i64) T2.out),Ext.refl _⟩
 ·have hless1:=KgZ hl;have hless2:=KgZ hl.symm
  have heqd:(Lib.decDigits u==Lib.decDigits v)=decide (u=v):=by
   by_cases h:u=v
   ·subst h;simp
   ·rw [decide_eq_false h,beq_eq_false_iff_ne];exact λe=>h (Kf4 e)
  rw [<-Lib.decDigits_length,<-Lib.decDigits_length] at hl;have t1:(((Lib.decDigits u).length:Int) != ((Lib.decDigits v).length:Int))=false:=by rw [bne_eq_false_iff_eq];omega
  clear hl hu hv
  rcases Nat.lt_trichotomy u v with h | h | h
  ·have hr:Zr u v = -1:=by unfold Zr;rw [if_pos h]
   rw [decide_eq_true h] at hless1;rw [hr];clear hr h hless2 heqd
   go_enter Tryz.func130,Tryz.ntmps130
   go_wp2
   go_ret;exact ⟨rfl,Ext.refl _⟩
  ·subst h;have hr:Zr u u=0:=by unfold Zr;rw [if_neg (by omega),if_neg (by omega)]
   rw [decide_eq_false (by omega)] at hless1;rw [hr];clear hr hless2 heqd
   go_enter Tryz.func130,Tryz.ntmps130
   go_wp2
   go_ret;exact ⟨rfl,Ext.refl _⟩
  ·have hr:Zr u v=1:=by unfold Zr;rw [if_neg (by omega),if_pos h]
   rw [decide_eq_false (by omega)] at hless1 heqd;rw [hr];clear hr h hless2
   go_enter Tryz.func130,Tryz.ntmps130
   go_wp2
   go_ret;exact ⟨rfl,Ext.refl _⟩
 ·have hlt:=Kpq hl;have hr:Zr u v=1:=by unfold Zr;rw [if_neg (by omega),if_pos hlt]
  rw [<-Lib.decDigits_length,<-Lib.decDigits_length u] at hl;rw [hr];clear hr hlt hu hv;unfold D;generalize Lib.decDigits u=a at *;generalize Lib.decDigits v=b at *;have t1:((a.length:Int) != (b.length:Int))=true:=by rw [bne_iff_ne];omega
  have t2:min (1:Int) (max (-1) ((a.length:Int)-b.length))=1:=by omega
  have T2:=hid t2;clear t2
  go_enter Tryz.func130,Tryz.ntmps130
  go_wp2
  go_ret;exact ⟨KN (congrArg (Value.int .i64) T2.out),Ext.refl _⟩
theorem KeF {B:Nat} {w:World} {g cap u:Nat} (h:KG B w g cap (pc u)) (hl:(pc u).length<=LIM) :
  Calls Tryz.prog 143 #[slv g (pc u).length cap] w λe w'=>e = .returned (D u)/\Ext w w':=KnN h.sl hl
theorem Kmi {u v:Nat} (hu:Lib.nDigits u+Lib.nDigits v<=LIM) {w:World} (hL:Laid w) :
  Calls Tryz.prog 118 #[D u,D v] w λe w'=>e = .returned (D (u*v))/\Ext w w':=by
 have pu:=Lib.nDigits_pos u;have pv:=Lib.nDigits_pos v;have HL:=hid hL;clear hL
 by_cases hs:Lib.nDigits u+Lib.nDigits v<=18
 ·have hb:=hid (Ka9 (u:=u) (v:=v) (by omega) (by omega))
  have h18:u*v<10^18:=by
   have h1:=Nat.mul_lt_mul'' (Lib.lt_pow_nDigits u) (Lib.lt_pow_nDigits v);rw [<-Nat.pow_add] at h1;exact Nat.lt_of_lt_of_le h1 (Nat.pow_le_pow_right (by omega) hs)
  have hzz:(u:Int)*(v:Int)=((u*v:Nat):Int):=rfl;obtain ⟨z,hz⟩ : ∃z,z=u*v:=⟨_,rfl⟩
  rw [<-hz] at h18 hzz ⊢;have t1:((Lib.decDigits u).length:Int)+(Lib.decDigits v).length<=18:=by rw [Lib.decDigits_length,Lib.decDigits_length];omega
  have h18':(z:Int)<1000000000000000000:=by omega
  have hof:=hid (λw hL=>Kan (u:=z) (w:=w) (by omega) hL);clear hz pu pv hu hs h18
  go_enter Tryz.func118,Tryz.ntmps118
  go_wp2_with fail;refine (hb.out _).mono ?_;rintro e w1 ⟨rfl,hE1⟩;go_wp2_with fail;refine (hof.out _ (HL.out.ext hE1)).mono ?_;rintro e w2 ⟨rfl,hE2⟩;go_wp2_with fail;go_ret;exact ⟨rfl,hE1.trans hE2⟩
 ·have h1:Lib.nDigits u<=LIM:=by omega
  have h2:Lib.nDigits v<=LIM:=by omega
  have hc1:=hid (Yt h1);have hc2:=hid (Yt h2);have l1:(pc u).length<=LIM:=Nat.le_trans (Qy u) h1;have l2:(pc v).length<=LIM:=Nat.le_trans (Qy v) h2
  have l3:(pc (u*v)).length<=LIM:=by
   refine Nat.le_trans (Qy _) (Nat.le_trans ?_ hu);have:=QY u v;unfold nd at this;simpa [Int.natAbs_mul] using this
  have t1 : ¬((Lib.decDigits u).length:Int)+(Lib.decDigits v).length<=18:=by rw [Lib.decDigits_length,Lib.decDigits_length];omega
  have b1:(Lib.decDigits u).length<=1000000000000:=by rw [Lib.decDigits_length];exact h1
  have b2:(Lib.decDigits v).length<=1000000000000:=by rw [Lib.decDigits_length];exact h2
  have L1:=hid l1;have L2:=hid l2;have L3:=hid l3;clear h1 h2 l1 l2 l3 hs pu pv hu
  go_enter Tryz.func118,Tryz.ntmps118
  go_wp2_with fail;refine (hc1.out _).mono ?_;rintro e w1 ⟨x1,rfl,⟨g1,cap1,rfl,hO1⟩,hE1⟩;go_wp2_with fail;refine (hc2.out _).mono ?_;rintro e w2 ⟨x2,rfl,⟨g2,cap2,rfl,hO2⟩,hE2⟩;have ht:=KfM (c1:=cap1) (c2:=cap2) (hO1.ext hE2).sl hO2.sl (KL u) (KL v) L1.out L2.out;rw [ZO,ZO] at ht;have Ht:=hid ht;clear ht;go_wp2_with fail;refine Ht.out.mono ?_;rintro e w3 ⟨x3,rfl,⟨g3,cap3,rfl,hO3⟩,hE3⟩;have Htx:=hid (KeF hO3 L3.out);go_wp2_with fail;refine Htx.out.mono ?_;rintro e w4 ⟨rfl,hE4⟩;go_wp2_with fail;go_ret;exact ⟨rfl,((hE1.trans hE2).trans hE3).trans hE4⟩
theorem KeL (q:List Nat) (k:Nat):vP (q++List.replicate k 0)=vP q:=by rw [ZH,Jy];simp
theorem Zo {a b:List Nat} (h1:Kz a) (h2:Kz b):Kz (a++b):=λd hd=>(List.mem_append.1 hd).elim (h1 d) (h2 d)
theorem Jt (k:Nat):Kz (List.replicate k 0):=λd hd=>by rw [List.mem_replicate] at hd;omega
theorem J9:Kz [0]:=λd hd=>by simp at hd;omega
theorem KeK (p:List Nat) (k:Nat):us p++List.replicate k (.int .u64 0)=us (p++List.replicate k 0):=by simp [us]
theorem KG.of_row {B:Nat} {w:World} {g cap n:Nat} {p:List Nat} (h:w.ownsRow B 191 1 (slv g n cap) n (us p)):KG B w g cap p:=(Kd.of_row h).u
theorem Ke4 {x y:Nat} {p':List Nat} {lp c:Nat} (hx:x<1000000000^lp) (hy:y<1000000000^lp) (h:(vP p':Int)+c*1000000000^(0+lp+1)=x+y*1000000000^0):vP p'=x+y:=by
 have e:(1000000000:Int)^(0+lp+1)=1000000000*((1000000000^lp:Nat):Int):=by
  rw [Nat.zero_add,Int.pow_succ,Int.natCast_pow,Int.mul_comm];rfl
 rw [e,Int.pow_zero,Int.mul_one] at h;generalize (1000000000:Nat)^lp=P at *
 rcases Nat.eq_zero_or_pos c with rfl | hc
 ·simp at h;omega
 ·exfalso;have:(1:Int)*(1000000000*(P:Int))<=c*(1000000000*(P:Int)):=Int.mul_le_mul_of_nonneg_right (by omega) (by omega);omega
theorem KgY {u v:Nat} (hu:Lib.nDigits u<LIM) (hv:Lib.nDigits v<LIM) {w:World} (hL:Laid w) :
  Calls Tryz.prog 123 #[D u,D v] w λe w'=>e = .returned (D (u+v))/\Ext w w':=by
 have HL:=hid hL;clear hL
 by_cases hs:Lib.nDigits u<=18/\Lib.nDigits v<=18
 ·have hb:=hid (Ka9 hs.1 hs.2);have h1:=KE hs.1;have h2:=KE hs.2;have bu:(u:Int)<1000000000000000000:=by omega
  have bv:(v:Int)<1000000000000000000:=by omega
  have hof:=hid (λw hL=>Kan (u:=u+v) (w:=w) (by omega) hL);rw [show (((u+v:Nat)):Int)=(u:Int)+v from by omega] at hof;clear h1 h2 hs hu hv
  go_enter Tryz.func123,Tryz.ntmps123
  go_wp2_with fail;refine (hb.out _).mono ?_;rintro e w1 ⟨rfl,hE1⟩;go_wp2_with fail;refine (hof.out _ (HL.out.ext hE1)).mono ?_;rintro e w2 ⟨rfl,hE2⟩;go_wp2_with fail;go_ret;exact ⟨rfl,hE1.trans hE2⟩
 ·have hc1:=hid (Yt (u:=u) (by omega));have hc2:=hid (Yt (u:=v) (by omega));have hbn:=hid (Kf0 (u:=u) (v:=v) (by omega) (by omega) (by omega));have l1:(pc u).length<=1000000000000:=by have:=Qy u;unfold LIM at hu;omega
  have l2:(pc v).length<=1000000000000:=by have:=Qy v;unfold LIM at hv;omega
  have l3:(pc (u+v)).length<=LIM:=by
   refine Nat.le_trans (Qy _) ?_;have:=KaX u v;unfold nd at this
   rw [show ((u:Int)+(v:Int)).natAbs=u+v by omega,Int.natAbs_natCast,Int.natAbs_natCast] at this;omega
  have L3:=hid l3;obtain ⟨i0,hi,hz0,hz1,hz2⟩:=info_parts Tryz.infoU64;clear l3 hs hu hv
  go_enter Tryz.func123,Tryz.ntmps123
  go_wp2_with fail;refine (hbn.out _).mono ?_;rintro e w0 ⟨rfl,hE0⟩;go_wp2_with fail;refine (hc1.out _).mono ?_;rintro e w1 ⟨x1,rfl,⟨g1,cap1,rfl,hO1⟩,hE1⟩;go_wp2_with fail;refine (hc2.out _).mono ?_;rintro e w2 ⟨x2,rfl,⟨g2,cap2,rfl,hO2⟩,hE2⟩;have hd:=hO1.lt;have hd2:=hO2.lt;have hne:g1≠g2:=by omega
  have hne':g2≠g1:=by omega
  have hO1':=(hO1.ext hE2).mono hE0.size;have hO2':=hO2.mono (hE0.trans hE1).size;have hE02:=(hE0.trans hE1).trans hE2
  by_cases hlen:(pc u).length<(pc v).length
  ·have hlz:((pc u).length:Int)<(pc v).length:=by omega
   have hw1:=hO1'.v.row (Qa _);have hw2:=hO2'.v.row (Qa _);have hgs1:=hO1'.lt;have hgs2:=hO2'.lt;have hulen:u<1000000000^(pc v).length:=Nat.lt_of_lt_of_le (YD u) (Nat.pow_le_pow_right (by omega) (by omega));have Hlt:=hid (And.intro (YD v) hulen);obtain ⟨m,hm⟩ : ∃m,m=(pc v).length-(pc u).length:=⟨_,rfl⟩
   have hmz:((pc v).length:Int)-(pc u).length=(m:Int):=by omega
   have hml:(pc u).length+m=(pc v).length:=by omega
   have Hm:=hid hml;have hmb:m<=1000000000000:=by omega
   clear hd hd2 hulen hO1 hE2 hE0 hE1 hO2 hm hml;go_wp2_with (first | (at_builtin;refine Ka3 _ rfl (.tmp 33) (.tmp 34) 200 rfl w.heap.size 191 i0 (.int .u64 0) 1 8 Tryz.underlying200 hi hz0 hz1 hz2 rfl g2 cap2 (pc v).length _ rfl (World.ownsRow.alloc hw2 _) ⟨w2.heap.size,0,none⟩ 1 1 [.int .u64 0] rfl rfl (cell_one_new _ _ _) (YC _ _) (by unfold maxLen;omega) (by omega) (by have:=hE02.size;simp;omega) ?_;intro gp cp w3 hown3 hgrow3 hgp;have hw3:=World.ownsRow.kept (World.ownsRow.alloc hw1 _) hgrow3 (.inr (by simp [Value.ownBlock,hne]));have hs3:=hgrow3.size) | (at_builtin;refine Xv _ rfl (.tmp 37) (.tmp 43) 200 3 rfl w.heap.size 191 i0 (.int .u64 0) 8 Tryz.underlying200 Tryz.underlying3 hi hz0 hz1 hz2 rfl rfl g1 cap1 (pc u).length _ rfl hw3 m rfl (by unfold maxLen;omega) (by omega) (by have:=hE02.size;simp at hs3;omega) ?_;intro gq cq w4 hown4 hgrow4 hgq))
   have hEp:Ext w w3:=Kb (hE02.alloc _) hgrow3 (by omega);have hEq:Ext w w4:=Kb hEp hgrow4 (by omega)
   have hOp:KG w.heap.size w3 gp cp (pc v++[0]):=KG.of_row (n:=(pc v).length+1) (by
    have:us (pc v++[0])=us (pc v)++[.int .u64 0]:=by simp [us]
    rw [this];exact hown3)
   have hOq:KG w.heap.size w4 gq cq (pc u++List.replicate m 0):=KG.of_row (n:=(pc u).length+m) (by rw [<-KeK];exact hown4)
   have hgpq:gp≠g1:=by
    rcases hgp with h | h
    ·rw [h];omega
    ·rw [h];simp;omega
   have hOp4:=hOp.other hgrow4 hgpq
   have hneq:gq≠gp:=by
    have:=hOp.lt
    rcases hgq with h | h<;>omega
   have hlp:(pc v++[0]).length=(pc v).length+1:=by simp
   have hlq:(pc u++List.replicate m 0).length=(pc u).length+m:=by rw [List.length_append,List.length_replicate]
   have hbk:=Kdo (c2:=cq) (at_:=0) hOp4 hOq.sl hneq (Zo (KL _) J9) (Zo (KL _) (Jt _)) (by rw [hlp,hlq];omega) (by rw [hlp];omega);rw [hlp,hlq,KeL,ZH,ZO,ZO] at hbk;have Hbk:=hid hbk;clear hbk hown3 hown4 hgrow3 hgrow4 hw1 hw2 hw3 hOp hOp4 hOq hlp hlq hgpq hneq hgp hgq hEp hs3;refine Hbk.out.mono ?_;rintro e w5 ⟨p5,rfl,H5,hO5,hG5⟩;obtain ⟨c,hcv⟩:=H5.out.2.2.2;rw [Hm.out] at hcv
   have hval:vP p5=u+v:=by
    have h9:vP ([0]:List Nat)=0:=rfl;rw [h9,Nat.mul_zero,Nat.add_zero] at hcv;have:=Ke4 Hlt.out.1 Hlt.out.2 hcv;omega
   have htr:=Xg (gc:=cp) hO5.sl (by rw [H5.out.1];omega) hO5.cap;rw [H5.out.1,Kac H5.out.2.1,hval] at htr;have hO5':=hO5.tl;rw [Kac H5.out.2.1,hval] at hO5';have hE5:Ext w w5:=Kb hEq hG5 hO5.lt.1;have Htr:=hid htr;clear htr hcv hval hEq;go_wp2_with fail;refine Htr.out.mono ?_;rintro e w6 ⟨rfl,hE6⟩;have Htx:=hid (KeF (hO5'.ext hE6) L3.out);go_wp2_with fail;refine Htx.out.mono ?_;rintro e w7 ⟨rfl,hE7⟩;go_wp2_with fail;go_ret;exact ⟨rfl,(hE5.trans hE6).trans hE7⟩
  ·have hlz : ¬((pc u).length:Int)<(pc v).length:=by omega
   have hw1:=hO1'.v.row (Qa _);have hw2:=hO2'.v.row (Qa _);have hgs1:=hO1'.lt;have hgs2:=hO2'.lt;have hulen:v<1000000000^(pc u).length:=Nat.lt_of_lt_of_le (YD v) (Nat.pow_le_pow_right (by omega) (by omega));have Hlt:=hid (And.intro (YD u) hulen);obtain ⟨m,hm⟩ : ∃m,m=(pc u).length-(pc v).length:=⟨_,rfl⟩
   have hmz:((pc u).length:Int)-(pc v).length=(m:Int):=by omega
   have hml:(pc v).length+m=(pc u).length:=by omega
   have Hm:=hid hml;have hmb:m<=1000000000000:=by omega
   clear hd hd2 hulen hO1 hE2 hE0 hE1 hO2 hm hml;go_wp2_with (first | (at_builtin;refine Ka3 _ rfl (.tmp 33) (.tmp 34) 200 rfl w.heap.size 191 i0 (.int .u64 0) 1 8 Tryz.underlying200 hi hz0 hz1 hz2 rfl g1 cap1 (pc u).length _ rfl (World.ownsRow.alloc hw1 _) ⟨w2.heap.size,0,none⟩ 1 1 [.int .u64 0] rfl rfl (cell_one_new _ _ _) (YC _ _) (by unfold maxLen;omega) (by omega) (by have:=hE02.size;simp;omega) ?_;intro gp cp w3 hown3 hgrow3 hgp;have hw3:=World.ownsRow.kept (World.ownsRow.alloc hw2 _) hgrow3 (.inr (by simp [Value.ownBlock,hne']));have hs3:=hgrow3.size) | (at_builtin;refine Xv _ rfl (.tmp 37) (.tmp 43) 200 3 rfl w.heap.size 191 i0 (.int .u64 0) 8 Tryz.underlying200 Tryz.underlying3 hi hz0 hz1 hz2 rfl rfl g2 cap2 (pc v).length _ rfl hw3 m rfl (by unfold maxLen;omega) (by omega) (by have:=hE02.size;simp at hs3;omega) ?_;intro gq cq w4 hown4 hgrow4 hgq))
   have hEp:Ext w w3:=Kb (hE02.alloc _) hgrow3 (by omega);have hEq:Ext w w4:=Kb hEp hgrow4 (by omega)
   have hOp:KG w.heap.size w3 gp cp (pc u++[0]):=KG.of_row (n:=(pc u).length+1) (by
    have:us (pc u++[0])=us (pc u)++[.int .u64 0]:=by simp [us]
    rw [this];exact hown3)
   have hOq:KG w.heap.size w4 gq cq (pc v++List.replicate m 0):=KG.of_row (n:=(pc v).length+m) (by rw [<-KeK];exact hown4)
   have hgpq:gp≠g2:=by
    rcases hgp with h | h
    ·rw [h];omega
    ·rw [h];simp;omega
   have hOp4:=hOp.other hgrow4 hgpq
   have hneq:gq≠gp:=by
    have:=hOp.lt
    rcases hgq with h | h<;>omega
   have hlp:(pc u++[0]).length=(pc u).length+1:=by simp
   have hlq:(pc v++List.replicate m 0).length=(pc v).length+m:=by rw [List.length_append,List.length_replicate]
   have hbk:=Kdo (c2:=cq) (at_:=0) hOp4 hOq.sl hneq (Zo (KL _) J9) (Zo (KL _) (Jt _)) (by rw [hlp,hlq];omega) (by rw [hlp];omega);rw [hlp,hlq,KeL,ZH,ZO,ZO] at hbk;have Hbk:=hid hbk;clear hbk hown3 hown4 hgrow3 hgrow4 hw1 hw2 hw3 hOp hOp4 hOq hlp hlq hgpq hneq hgp hgq hEp hs3;refine Hbk.out.mono ?_;rintro e w5 ⟨p5,rfl,H5,hO5,hG5⟩;obtain ⟨c,hcv⟩:=H5.out.2.2.2;rw [Hm.out] at hcv
   have hval:vP p5=u+v:=by
    have h9:vP ([0]:List Nat)=0:=rfl;rw [h9,Nat.mul_zero,Nat.add_zero] at hcv;have:=Ke4 Hlt.out.1 Hlt.out.2 hcv;omega
   have htr:=Xg (gc:=cp) hO5.sl (by rw [H5.out.1];omega) hO5.cap;rw [H5.out.1,Kac H5.out.2.1,hval] at htr;have hO5':=hO5.tl;rw [Kac H5.out.2.1,hval] at hO5';have hE5:Ext w w5:=Kb hEq hG5 hO5.lt.1;have Htr:=hid htr;clear htr hcv hval hEq;go_wp2_with fail;refine Htr.out.mono ?_;rintro e w6 ⟨rfl,hE6⟩;have Htx:=hid (KeF (hO5'.ext hE6) L3.out);go_wp2_with fail;refine Htx.out.mono ?_;rintro e w7 ⟨rfl,hE7⟩;go_wp2_with fail;go_ret;exact ⟨rfl,(hE5.trans hE6).trans hE7⟩
end
section
open Go.RowKit Go.Sort
open Lib (hid)
theorem Qn {P:Program} {f:FuncId} {args:Array Value} {w:World} {v:Value} (h : ∀W,Ext w W->Calls P f args W λe w'=>e = .returned v/\Ext W w') :
  ∀d os,Calls P f args (grow (redrawn w d) os) λe w''=>e = .returned v /\ ∃p:Regrown,w''=grow (redrawn w p.d) p.os:=λd os=>Calls.regrown_of (h _ (below_regrown w d os))
theorem Kk (w:World) (d:Nat) (os:Array Obj):Ext w (grow (redrawn w d) os):=below_regrown w d os
theorem Klx {x y:Nat} {p':List Nat} {lp bw:Nat} (_hx:x<1000000000^lp) (hyx:y<=x) (hp:vP p'<1000000000^(lp+1)) (hb:bw<=1) (h:(vP p':Int)-bw*1000000000^(0+lp+1)=x-(1:Nat)*y*1000000000^0):vP p'=x-y:=by
 have e:(1000000000:Int)^(0+lp+1)=((1000000000^(lp+1):Nat):Int):=by
  rw [Nat.zero_add,Int.natCast_pow];rfl
 rw [e,Int.pow_zero,Int.mul_one] at h;generalize (1000000000:Nat)^(lp+1)=P at *
 rcases (show bw=0\/bw=1 by omega) with rfl | rfl
 ·simp at h;omega
 ·simp at h;omega
theorem KdC {u v:Nat} (hu:Lib.nDigits u<LIM) (hvu:v<=u) {w:World} (hL:Laid w) :
  Calls Tryz.prog 124 #[D u,D v] w λe w'=>e = .returned (.tuple #[D (u-v),.int .i64 0])/\Ext w w':=by
 have HL:=hid hL;have hv:Lib.nDigits v<LIM:=Nat.lt_of_le_of_lt (Qx hvu) hu;have hcmp:=hid (XP (u:=u) (v:=v) (by omega) (by omega));have hcz : ¬(Zr u v<0):=by unfold Zr;rw [if_neg (by omega)];split<;>omega
 have hcz':0<=Zr u v:=by omega
 clear hL hcz;generalize Zr u v=cc at *
 by_cases hs:Lib.nDigits u<=18/\Lib.nDigits v<=18
 ·have hb:=hid (Ka9 hs.1 hs.2);have h1:=KE hs.1;have bu:(u:Int)<1000000000000000000:=by omega
  have buv:(v:Int)<=u:=by omega
  have hof:=hid (λw hL=>Kan (u:=u-v) (w:=w) (by omega) hL);rw [show (((u-v:Nat)):Int)=(u:Int)-v from by omega] at hof;have Hbuv:=hid (And.intro buv bu);clear h1 hs hu hv hvu buv bu
  go_enter Tryz.func124,Tryz.ntmps124
  go_wp2_with fail;refine (hcmp.out _).mono ?_;rintro e w0 ⟨rfl,hE0⟩;go_wp2_with fail;refine (hb.out _).mono ?_;rintro e w1 ⟨rfl,hE1⟩;obtain ⟨buv,bu⟩:=Hbuv.out;go_wp2_with fail;refine (hof.out _ (HL.out.ext (hE0.trans hE1))).mono ?_;rintro e w2 ⟨rfl,hE2⟩;go_wp2_with fail;go_ret2;exact ⟨rfl,(hE0.trans hE1).trans hE2⟩
 ·have hc1:=hid (Yt (u:=u) (by omega));have hc2:=hid (Yt (u:=v) (by omega));have hbn:=hid (Kf0 (u:=u) (v:=v) (by omega) (by omega) (by omega));have l1:(pc u).length<=1000000000000:=by have:=Qy u;unfold LIM at hu;omega
  have l12:(pc v).length<=(pc u).length:=Zz hvu;have l3:(pc (u-v)).length<=LIM:=Nat.le_trans (Zz (Nat.sub_le u v)) l1;have L3:=hid l3;have Hvu:=hid hvu;obtain ⟨i0,hi,hz0,hz1,hz2⟩:=info_parts Tryz.infoU64;obtain ⟨m,hm⟩ : ∃m,m=(pc u).length-(pc v).length:=⟨_,rfl⟩
  have hmz:((pc u).length:Int)-(pc v).length=(m:Int):=by omega
  have hml:(pc v).length+m=(pc u).length:=by omega
  have Hm:=hid hml;have hmb:m<=1000000000000:=by omega
  have hle:(pc v).length+m<=1000000000000:=by omega
  clear l3 hs hu hv hvu hm hml
  go_enter Tryz.func124,Tryz.ntmps124
  go_wp2_with fail;refine (hcmp.out _).mono ?_;rintro e w00 ⟨rfl,hE00⟩;go_wp2_with fail;refine (hbn.out _).mono ?_;rintro e w0 ⟨rfl,hE0'⟩;have hE0:=hE00.trans hE0';clear hE00 hE0';go_wp2_with fail;refine (hc1.out _).mono ?_;rintro e w1 ⟨x1,rfl,⟨g1,cap1,rfl,hO1⟩,hE1⟩;have hO1':=hO1.mono hE0.size;have hE01:=hE0.trans hE1;have hw1:=hO1'.v.row (Qa _);have hgs1:=hO1'.lt;clear hO1 hE1 hE0;go_wp2_with (at_builtin;refine Ka3 _ rfl _ _ 200 rfl w.heap.size 191 i0 (.int .u64 0) 1 8 Tryz.underlying200 hi hz0 hz1 hz2 rfl g1 cap1 (pc u).length _ rfl (World.ownsRow.alloc hw1 _) ⟨w1.heap.size,0,none⟩ 1 1 [.int .u64 0] rfl rfl (cell_one_new _ _ _) (YC _ _) (by unfold maxLen;omega) (by omega) (by have:=hE01.size;simp;omega) ?_;intro gp cp w3 hown3 hgrow3 hgp)
  have hEp:Ext w w3:=Kb (hE01.alloc _) hgrow3 (by omega)
  have hOp:KG w.heap.size w3 gp cp (pc u++[0]):=KG.of_row (n:=(pc u).length+1) (by
   have:us (pc u++[0])=us (pc u)++[.int .u64 0]:=by simp [us]
   rw [this];exact hown3)
  clear hown3 hgrow3 hgp hw1 hgs1 hO1' hE01;refine (hc2.out _).mono ?_;rintro e w4 ⟨x2,rfl,⟨g2,cap2,rfl,hO2⟩,hE4⟩;go_wp2_with fail;refine (hc2.out _).mono ?_;rintro e w5 ⟨x3,rfl,⟨g3,cap3,rfl,hO3⟩,hE5⟩;have hgp4:=hOp.lt;have hg2:=hO2.lt;have hOp5:=hOp.ext (hE4.trans hE5);have hE05:=(hEp.trans hE4).trans hE5;have hO2':=(hO2.ext hE5).mono hEp.size;have hw2:=hO2'.v.row (Qa _);clear hO2 hO3 hEp hE4 hE5 hOp;go_wp2_with (at_builtin;refine Xv _ rfl _ _ 200 3 rfl w.heap.size 191 i0 (.int .u64 0) 8 Tryz.underlying200 Tryz.underlying3 hi hz0 hz1 hz2 rfl rfl g2 cap2 (pc v).length _ rfl hw2 m rfl (by unfold maxLen;omega) (by omega) (hE05.size) ?_;intro gq cq w6 hown6 hgrow6 hgq)
  have hE6:Ext w w6:=Kb hE05 hgrow6 (by have:=hO2'.lt;omega);have hOq:KG w.heap.size w6 gq cq (pc v++List.replicate m 0):=KG.of_row (n:=(pc v).length+m) (by rw [<-KeK];exact hown6);have hOp6:=hOp5.other hgrow6 (by omega);have hgp5:=hOp5.lt;have hneq:gq≠gp:=by rcases hgq with h | h<;>omega
  have hlp:(pc u++[0]).length=(pc u).length+1:=by simp
  have hlq:(pc v++List.replicate m 0).length=(pc v).length+m:=by rw [List.length_append,List.length_replicate]
  have htk:=Kh5 (c2:=cq) (at_:=0) (n:=1) hOp6 hOq.sl hneq (Zo (KL _) J9) (Zo (KL _) (Jt _)) (by rw [hlp,hlq,Hm.out];omega) (by rw [hlp];omega) (by omega);rw [hlp,hlq,KeL,ZH,ZO,ZO] at htk;have Htk:=hid htk;clear htk hown6 hgrow6 hw2 hOp5 hOp6 hOq hlp hlq hneq hgq hE05 hO2';refine Htk.out.mono ?_;rintro e w7 ⟨p7,bw,rfl,H7,hO7,hG7⟩;obtain ⟨_,hs7,hdr,hb7,hv7⟩:=H7.out;have hl7:p7.length=(pc u).length+1:=H7.out.1
  have hval:vP p7=u-v:=by
   rw [Hm.out] at hv7;have h9:vP ([0]:List Nat)=0:=rfl;rw [h9,Nat.mul_zero,Nat.add_zero] at hv7;refine Klx (YD u) Hvu.out ?_ hb7 hv7;have:=KfO hs7;rw [hl7] at this;exact this
  have htr:=Xg (gc:=cp) hO7.sl (by rw [hl7];omega) hO7.cap;rw [hl7,Kac hs7,hval] at htr;have hO7':=hO7.tl;rw [Kac hs7,hval] at hO7';have hE7:Ext w w7:=Kb hE6 hG7 hO7.lt.1;have Htr:=hid htr;clear htr hv7 hval hE6 hdr hl7 hs7;go_wp2_with fail;refine Htr.out.mono ?_;rintro e w8 ⟨rfl,hE8⟩;have Htx:=hid (KeF (hO7'.ext hE8) L3.out);go_wp2_with fail;refine Htx.out.mono ?_;rintro e w9 ⟨rfl,hE9⟩;go_wp2_with fail;go_ret2;exact ⟨rfl,(hE7.trans hE8).trans hE9⟩
theorem Kqg {v:Nat} (h:(pc v).length=1):pc v=[v]/\v<1000000000:=by
 have h1:=YD v;rw [h] at h1;have hv:v≠0:=λe=>by subst e;rw [Qz] at h;cases h
 refine ⟨?_,by simpa using h1⟩;rw [Jo hv,Nat.mod_eq_of_lt (by simpa using h1),Nat.div_eq_of_lt (by simpa using h1),Qz]
theorem KpC:D 0=S [48]:=by unfold D;rw [YR]
theorem Kcz {u v:Nat} (hu:Lib.nDigits u<LIM) (hv:Lib.nDigits v<LIM) (hv0:v≠0) {w:World} (hL:Laid w) :
  Calls Tryz.prog 122 #[D u,D v] w λe w'=>e = .returned (.tuple #[D (u/v),D (u%v),.int .i64 0])/\Ext w w':=by
 have HL:=hid hL;have hvz:(Lib.decDigits v==[48])=false:=by rw [Q9,decide_eq_false hv0]
 clear hL
 by_cases hs:Lib.nDigits u<=18/\Lib.nDigits v<=18
 ·have hb:=hid (Ka9 hs.1 hs.2);have h1:=KE hs.1;have h2:=KE hs.2;have hd9:u/v<=u:=Nat.div_le_self u v;have hm9:u%v<v:=Nat.mod_lt u (by omega);have hof1:=hid (λw hL=>Kan (u:=u/v) (w:=w) (by omega) hL);have hof2:=hid (λw hL=>Kan (u:=u%v) (w:=w) (by omega) hL);obtain ⟨q,hq⟩ : ∃q,q=u/v:=⟨_,rfl⟩
  obtain ⟨r,hr⟩ : ∃r,r=u%v:=⟨_,rfl⟩
  have hqz:(u:Int)/v=(q:Int):=by rw [hq];simp
  have hrz:(u:Int)%v=(r:Int):=by rw [hr];simp
  have hv1:(1:Int)<=(v:Int):=by omega
  have hwq:IntKind.u64.wrap (q:Int)=(q:Int):=by rw [IntKind.wrap_u64];omega
  have hwr:IntKind.u64.wrap (r:Int)=(r:Int):=by rw [IntKind.wrap_u64];omega
  have hrt:Int.tmod (u:Int) (v:Int)=(r:Int):=by rw [Int.tmod_eq_emod_of_nonneg (by omega)];exact hrz
  have hqt:Int.tdiv (u:Int) (v:Int)=(q:Int):=by rw [Int.tdiv_eq_ediv_of_nonneg (by omega)];exact hqz
  have hv1':((v:Int)==0)=false:=beq_eq_false_iff_ne.2 (by omega);rw [<-hq] at hof1;rw [<-hr] at hof2;rw [<-hq,<-hr];clear h1 h2 hs hu hv hd9 hm9 hq hr
  go_enter Tryz.func122,Tryz.ntmps122
  go_wp2_with fail;refine (hb.out _).mono ?_;rintro e w1 ⟨rfl,hE1⟩;have c1:=Qn (w:=w1) (λW h=>hof1.out W (HL.out.ext (hE1.trans h)));have c2:=Qn (w:=w1) (λW h=>hof2.out W (HL.out.ext (hE1.trans h)));go_wp2_with fail;refine wp_region_quiet_below (by kernel_rfl) (by kernel_rfl) ?_
  repeat (quiet_step (first | exact c1 _ _ | exact c2 _ _))
  refine wpQuiet_nil ?_;intro _ hw';obtain ⟨⟨dq,osq⟩,hw''⟩:=hw';subst hw'';clear c1 c2
  go_wp2
  go_ret3
  exact ⟨rfl,hE1.trans (Kk _ _ _)⟩
 ·have hc1:=hid (Yt (u:=u) (by omega));have hc2:=hid (Yt (u:=v) (by omega));have hbn:=hid (Kf0 (u:=u) (v:=v) (by omega) (by omega) (by omega));have l1:(pc u).length<=LIM:=by have:=Qy u;omega
  have l2:(pc v).length<=LIM:=by have:=Qy v;omega
  have lq:(pc (u/v)).length<=LIM:=Nat.le_trans (Zz (Nat.div_le_self u v)) l1;have lr:(pc (u%v)).length<=LIM:=Nat.le_trans (Zz (Nat.mod_le u v)) l1;have Lq:=hid lq;have Lr:=hid lr;have L1:=hid l1;have L2:=hid l2;have Hv0:=hid hv0;clear lq lr l1 l2 hs hu hv hv0
  go_enter Tryz.func122,Tryz.ntmps122
  go_wp2_with fail;refine (hbn.out _).mono ?_;rintro e w0 ⟨rfl,hE0⟩;go_wp2_with fail;refine (hc1.out _).mono ?_;rintro e w1 ⟨x1,rfl,⟨g1,cap1,rfl,hO1⟩,hE1⟩;go_wp2_with fail;refine (hc2.out _).mono ?_;rintro e w2 ⟨x2,rfl,⟨g2,cap2,rfl,hO2⟩,hE2⟩;have hS1:=(hO1.ext hE2).sl;have hS2:=hO2.sl;have hE02:=(hE0.trans hE1).trans hE2;have hcm:=hid (KgX (c1:=cap1) (c2:=cap2) hS1 hS2 L1.out L2.out);clear hO1 hO2 hE0 hE1 hE2;go_wp2_with fail;refine hcm.out.mono ?_;rintro e w3 ⟨rfl,hE3⟩;have hS13:=hS1.ext hE3;have hS23:=hS2.ext hE3;have hE03:=hE02.trans hE3;clear hcm hS1 hS2 hE02 hE3
  by_cases huv:u<v
  ·have hcv:Zr u v = -1:=by unfold Zr;rw [if_pos huv]
   have hdz:u/v=0:=Nat.div_eq_of_lt huv;have hmz:u%v=u:=Nat.mod_eq_of_lt huv;rw [hcv];have Hdz:=hid hdz;have Hmz:=hid hmz;clear huv hcv hdz hmz hS13 hS23;go_wp2_with fail
   go_ret3
   exact ⟨KN (by rw [Hdz.out,Hmz.out,KpC];rfl),hE03⟩
  ·have hcv:0<=Zr u v:=by unfold Zr;rw [if_neg huv];split<;>omega
   generalize Zr u v=cc at *
   by_cases hone:(pc v).length=1
   ·obtain ⟨hpv,hv9⟩:=Kqg hone;rw [hone]
    have hcell:w3.cell? ⟨g2,0,none⟩=some (.int .u64 (v:Nat)):=by
     have:=hS23.cell 0 _ (ZY (by omega:0<(pc v).length));simp only [hpv] at this;simpa using this
    have hsm:=hid (KfF (c1:=cap1) (n:=v) hS13 (KL u) (by have:=L1.out;unfold LIM at this;omega) (by have:=Hv0.out;omega) hv9);rw [ZO] at hsm;have Hv9:=hid hv9;clear hS13 hS23 hone hpv hv9 huv;go_wp2_with fail;refine hsm.out.mono ?_;rintro e w4 ⟨x4,rfl,⟨g4,cap4,rfl,hO4⟩,hE4⟩;have htx:=hid (KeF hO4 Lq.out);clear hcell hcv;go_wp2_with fail;refine htx.out.mono ?_;rintro e w5 ⟨rfl,hE5⟩;have hEE:=(hE03.trans hE4).trans hE5;have hof:=hid (Kan (u:=u%v) (by have:=Nat.mod_lt u (show 0<v by have:=Hv0.out;omega);have:=Hv9.out;omega) (HL.out.ext hEE));go_wp2_with fail;refine hof.out.mono ?_;rintro e w6 ⟨rfl,hE6⟩;go_wp2_with fail
    go_ret3
    exact ⟨rfl,hEE.trans hE6⟩
   ·have h2:2<=(pc v).length:=by
     have:(pc v).length≠0:=λh=>Hv0.out (Kd4.1 (List.eq_nil_of_length_eq_zero h))
     omega
    have hdv:=hid (Kiv (c1:=cap1) (c2:=cap2) hS13 hS23 L1.out L2.out (by omega) h2);have hl1:(((pc v).length:Int)==1)=false:=beq_eq_false_iff_ne.2 (by omega);clear hS13 hS23 hone h2 huv;go_wp2_with fail;refine hdv.out.mono ?_;rintro e w4 ⟨x4,y4,rfl,⟨g4,cap4,rfl,hO4⟩,⟨g5,cap5,rfl,hO5⟩,hE4⟩;have htx:=hid (KeF hO4 Lq.out);clear hdv hl1 hcv;go_wp2_with fail;refine htx.out.mono ?_;rintro e w5 ⟨rfl,hE5⟩;have htx2:=hid (KeF (hO5.ext hE5) Lr.out);go_wp2_with fail;refine htx2.out.mono ?_;rintro e w6 ⟨rfl,hE6⟩;go_wp2_with fail
    go_ret3
    exact ⟨rfl,((hE03.trans hE4).trans hE5).trans hE6⟩
end
end Go.Proofs.YtdmaofimeknkbaaGreatDoor
