/- Part 1 of the proof of the claim: contracts of the functions that it reaches, and plain laws; no condition. -/
import Derived.Lib.ItoaNum
import Derived.Test.YtdmaofimeknkbaaGreatDoorProg
import Derived.WalkKit
import Derived.WalkLawsBesides
import Derived.WalkSpells
import Derived.Deep.QuietTactic
import Derived.BigQuiet
import Derived.Below
import Derived.Lib.Hide
import Derived.Deep.LoopGhost
import Derived.Lib.Strings
import Derived.Lib.IndexBytes
import Derived.Lib.AtoiAll
import Derived.Lib.ParseIntB
set_option maxRecDepth 100000
set_option maxHeartbeats 20000000
namespace Go.Proofs.YtdmaofimeknkbaaGreatDoor
section
@[irreducible] def dv (c:UInt8):Nat:=c.toNat-48
def Zp (n:Nat) (l:List UInt8):Nat:=l.foldl (λn c=>10*n+dv c) n
def Z5 (c:UInt8):Prop:=48<=c.toNat/\c.toNat<=57
theorem KdG {c:UInt8} (h:Z5 c):dv c=c.toNat-48/\c.toNat=48+dv c/\dv c<10:=by
 unfold dv;unfold Z5 at h;omega
theorem XI (n:Nat):Zp n []=n:=rfl
theorem QE (n:Nat) (c:UInt8) (l:List UInt8):Zp n (c::l)=Zp (10*n+dv c) l:=by unfold Zp;rw [List.foldl_cons]
theorem YI (n:Nat) (a b:List UInt8):Zp n (a++b)=Zp (Zp n a) b:=by
 unfold Zp;rw [List.foldl_append]
theorem Y7 (a:List UInt8) : ∀n,Zp n a=n*10^a.length+Zp 0 a:=by
 induction a with
 | nil=>intro n;rw [XI,XI];simp
 | cons c a ih =>
  intro n;generalize hd:dv c=d;rw [QE,QE,hd,List.length_cons,Nat.pow_succ,ih (10*n+d),Nat.mul_zero,Nat.zero_add,ih d];generalize Zp 0 a=x;generalize 10^a.length=y;rw [Nat.add_mul,Nat.mul_comm 10 n,Nat.mul_assoc,Nat.mul_comm 10,Nat.add_assoc]
theorem Qu {k:Nat} (h:k<10):(UInt8.ofNat (48+k)).toNat=48+k:=by
 rw [UInt8.toNat_ofNat'];exact Nat.mod_eq_of_lt (by omega)
theorem ZP (u:Nat):Zp 0 (Lib.decDigits u)=u:=by
 induction u using Nat.strongRecOn with
 | _ u ih =>
  rw [Lib.decDigits]
  by_cases h:u<10
  ·rw [dif_pos h];rw [QE,XI];unfold dv;rw [Qu h];omega
  ·rw [dif_neg h,YI,ih (u/10) (by omega)];rw [QE,XI];unfold dv;rw [Qu (Nat.mod_lt u (by omega:0<10))]
   omega
theorem Kf4 {u v:Nat} (h:Lib.decDigits u=Lib.decDigits v):u=v:=by
 rw [<-ZP u,<-ZP v,h]
theorem XQ (u:Nat) : ∀c∈Lib.decDigits u,Z5 c:=by
 induction u using Nat.strongRecOn with
 | _ u ih =>
  rw [Lib.decDigits]
  by_cases h:u<10
  ·rw [dif_pos h];intro c hc;rw [List.mem_singleton] at hc;subst hc;unfold Z5;rw [Qu h];omega
  ·rw [dif_neg h];intro c hc
   rcases List.mem_append.1 hc with hc | hc
   ·exact ih _ (by omega) c hc
   ·rw [List.mem_singleton] at hc;subst hc;unfold Z5;rw [Qu (Nat.mod_lt u (by omega))];omega
theorem YR:Lib.decDigits 0=[48]:=by rw [Lib.decDigits];rfl
theorem KaV (u:Nat):Lib.decDigits u≠[]:=by
 intro h;have:=congrArg List.length h;rw [Lib.decDigits_length] at this;have:=Lib.nDigits_pos u;simp at *;omega
theorem Xa (u:Nat) : ∃c t,Lib.decDigits u=c::t/\Z5 c/\(u≠0->c.toNat≠48):=by
 induction u using Nat.strongRecOn with
 | _ u ih =>
  rw [Lib.decDigits]
  by_cases h:u<10
  ·rw [dif_pos h];refine ⟨_,_,rfl,?_,?_⟩
   ·unfold Z5;rw [Qu h];omega
   ·intro hu;rw [Qu h];omega
  ·rw [dif_neg h];obtain ⟨c,t,e,hd,hz⟩:=ih (u/10) (by omega);exact ⟨c,t++_,by rw [e];rfl,hd,λ_=>hz (by omega)⟩
theorem Q9 (u:Nat):(Lib.decDigits u==[48])=decide (u=0):=by
 by_cases h:u=0
 ·subst h;rw [YR];rfl
 ·rw [decide_eq_false h];obtain ⟨c,t,e,_,hz⟩:=Xa u;rw [beq_eq_false_iff_ne,e];intro hc;injection hc with hc _
  exact hz h (by rw [hc];rfl)
def nd (z:Int):Nat:=Lib.nDigits z.natAbs
theorem Zj {z:Int} (h:z<0):Lib.itoa z=45::Lib.decDigits z.natAbs:=by unfold Lib.itoa;rw [if_pos h]
theorem Q5 {z:Int} (h:0<=z):Lib.itoa z=Lib.decDigits z.natAbs:=by
 unfold Lib.itoa;rw [if_neg (by omega)];congr 1;omega
theorem Yk (u:Nat):Lib.itoa (u:Int)=Lib.decDigits u:=Q5 (by omega)
theorem Kav:Lib.itoa 0=[48]:=by rw [Q5 (by omega)];exact YR
theorem Zb (z:Int):(Lib.itoa z).length=nd z+(if z<0 then 1 else 0):=by
 by_cases h:z<0
 ·rw [Zj h,if_pos h,List.length_cons,Lib.decDigits_length];rfl
 ·rw [Q5 (by omega),if_neg h,Lib.decDigits_length];rfl
theorem KB (z:Int):(Lib.itoa z==[48])=decide (z=0):=by
 by_cases h:z<0
 ·rw [Zj h,decide_eq_false (by omega),beq_eq_false_iff_ne];intro hc;injection hc with hc _;cases hc
 ·rw [Q5 (by omega),Q9]
  by_cases hz:z=0
  ·simp [hz]
  ·rw [decide_eq_false hz,decide_eq_false (by omega)]
theorem KmQ {a b:Int} (h:Lib.itoa a=Lib.itoa b):a=b:=by
 by_cases ha:a<0<;>by_cases hb:b<0
 ·rw [Zj ha,Zj hb] at h;injection h with _ h;have:=Kf4 h;omega
 ·rw [Zj ha,Q5 (by omega)] at h;obtain ⟨c,t,e,hd,_⟩:=Xa b.natAbs;rw [e] at h;injection h with h _;subst h;exact absurd hd.1 (by decide)
 ·rw [Zj hb,Q5 (by omega)] at h;obtain ⟨c,t,e,hd,_⟩:=Xa a.natAbs;rw [e] at h;injection h with h _;subst h;exact absurd hd.1 (by decide)
 ·rw [Q5 (by omega),Q5 (by omega)] at h;have:=Kf4 h;omega
theorem KP {u k:Nat} (h:u<10^k) (hk:1<=k):Lib.nDigits u<=k:=by
 induction k generalizing u with
 | zero=>omega
 | succ k ih =>
  by_cases hu:u<10
  ·rw [Lib.nDigits_small hu];omega
  ·rw [Lib.nDigits_big hu];rw [Nat.pow_succ] at h
   have hk:1<=k:=by
    rcases Nat.eq_zero_or_pos k with h0 | h0
    ·subst h0;simp at h;omega
    ·exact h0
   have:=ih (u:=u/10) (by omega) hk;omega
theorem KE {u k:Nat} (h:Lib.nDigits u<=k):u<10^k :=
 Nat.lt_of_lt_of_le (Lib.lt_pow_nDigits u) (Nat.pow_le_pow_right (by omega) h)
theorem Qx {u v:Nat} (h:u<=v):Lib.nDigits u<=Lib.nDigits v :=
 KP (Nat.lt_of_le_of_lt h (Lib.lt_pow_nDigits v)) (Lib.nDigits_pos v)
theorem Kb4 (z:Int):nd (-z)=nd z:=by unfold nd;rw [Int.natAbs_neg]
theorem Km7 (z:Int):1<=nd z:=Lib.nDigits_pos _
theorem KaX (a b:Int):nd (a+b)<=max (nd a) (nd b)+1:=by
 unfold nd;refine KP ?_ (by omega);have h1:=KE (Nat.le_max_left (Lib.nDigits a.natAbs) (Lib.nDigits b.natAbs));have h2:=KE (Nat.le_max_right (Lib.nDigits a.natAbs) (Lib.nDigits b.natAbs));rw [Nat.pow_succ];have:=Int.natAbs_add_le a b;omega
theorem Kp8 (a b:Int):nd (a-b)<=max (nd a) (nd b)+1:=by
 have:=KaX a (-b);rw [Kb4] at this;exact this
theorem QY (a b:Int):nd (a*b)<=nd a+nd b:=by
 unfold nd;refine KP ?_ (by have:=Lib.nDigits_pos a.natAbs;omega);rw [Int.natAbs_mul,Nat.pow_add];exact Nat.mul_lt_mul'' (Lib.lt_pow_nDigits _) (Lib.lt_pow_nDigits _)
end
section
open Go.RowKit
open Lib (hid)
abbrev S (l:List UInt8):Value := .string ⟨l.toArray⟩
abbrev I (z:Int):Value:=S (Lib.itoa z)
abbrev D (u:Nat):Value:=S (Lib.decDigits u)
def LIM:Nat:=1000000000000
def Ext (w w':World):Prop:=Below w.heap.size w w'
theorem Ext.refl (w:World):Ext w w:=Below.refl _ _
theorem Ext.trans {a b c:World} (h:Ext a b) (k:Ext b c):Ext a c:=Below.trans h (Below.mono k h.size)
theorem Ext.drewN {a b:World} (h:Ext a b) (n:Nat):Ext a (b.drewN n):=below_drewN h n
theorem Ext.drew {a b:World} (h:Ext a b):Ext a b.drew:=Below.drew h
theorem Ext.alloc {a b:World} (h:Ext a b) (o:Obj):Ext a (b.alloc o):=Below.alloc h h.size o
theorem Ext.size {a b:World} (h:Ext a b):a.heap.size<=b.heap.size:=Below.size h
theorem Ext.block {a b:World} (h:Ext a b) (k:Nat) (hk:k<a.heap.size):b.heap[k]? = a.heap[k]? := Below.block h k hk
theorem Ext.cell {a b:World} (h:Ext a b) {p:Addr} {v:Value} (hp:a.cell? p=some v):b.cell? p=some v:=by
 rw [Below.cell h (World.block_lt_of_cell? _ _ hp)];exact hp
theorem Ext.frozen {a b:World} (h:Ext a b) {p:Addr} (hp:p.block<a.heap.size):b.frozen? p=a.frozen? p:=Below.frozen h hp
theorem Ext.mk' {a b:World} (h:Below a.heap.size a b):Ext a b:=h
theorem KN {a b:Value} (h:a=b):Ending.returned a = .returned b:=by rw [h]
theorem Kil (c:UInt8) (l:List UInt8) (n:Nat) (h:n=l.length+1):Value.string ((⟨(c::l).toArray⟩:ByteArray).extract 1 n)=S l:=by
 subst h
 congr 1
 rw [ByteArray.extract_mk]
 congr 1
 simp
theorem Kcf {z:Int} (hz:z<0) (_hl:nd z<=LIM) (w:World):Calls Tryz.prog 116 #[I z] w λe w'=>e = .returned (.tuple #[.bool true,D z.natAbs])/\Ext w w':=by
 rw [show I z=S (45::Lib.decDigits z.natAbs) by unfold I;rw [Zj hz]];have hl:(Lib.decDigits z.natAbs).length<=1000000000000:=by rw [Lib.decDigits_length];exact _hl
 clear _hl;rw [show D z.natAbs=S (Lib.decDigits z.natAbs) from rfl];generalize Lib.decDigits z.natAbs=l at *
 go_enter Tryz.func116,Tryz.ntmps116
 go_wp2
 go_quiet (fail)
 go_wp2
 go_ret2;have E:=Kil 45 l _ rfl;exact ⟨KN (congrArg (λv=>Value.tuple #[.bool true,v]) E),(Ext.refl _).drewN _⟩
theorem Kcg {z:Int} (hz:0<=z) (w:World):Calls Tryz.prog 116 #[I z] w λe w'=>e = .returned (.tuple #[.bool false,D z.natAbs])/\Ext w w':=by
 rw [show I z=S (Lib.decDigits z.natAbs) by unfold I;rw [Q5 hz]];obtain ⟨c,l,e,hd,_⟩:=Xa z.natAbs;unfold D;rw [e];clear e
 have h1:((c.toNat:Int)==45)=false:=beq_eq_false_iff_ne.2 (by have:=hd.1;omega);have h2:(((⟨(c::l).toArray⟩:ByteArray)[0]'(by show 0<(c::l).toArray.size;simp)).toNat:Int)=c.toNat:=rfl;clear hz hd
 go_enter Tryz.func116,Tryz.ntmps116
 go_wp2
 go_ret2;exact ⟨rfl,Ext.refl _⟩
theorem Khk (u:Nat) (w:World):Calls Tryz.prog 117 #[.bool false,D u] w λe w'=>e = .returned (I (u:Int))/\Ext w w':=by
 rw [show I (u:Int)=D u by unfold I D;rw [Yk]];unfold D;generalize Lib.decDigits u=l
 go_enter Tryz.func117,Tryz.ntmps117
 go_wp2
 go_ret;exact ⟨rfl,Ext.refl _⟩
theorem Khj (u:Nat) (hl:Lib.nDigits u<=LIM) (w:World):Calls Tryz.prog 117 #[.bool true,D u] w λe w'=>e = .returned (I (-(u:Int)))/\Ext w w':=by
 have hl':(Lib.decDigits u).length<=1000000000000:=by rw [Lib.decDigits_length];exact hl
 clear hl
 by_cases hu:u=0
 ·subst hu;unfold D I;rw [YR,show (-((0:Nat):Int))=0 from rfl,Kav]
  go_enter Tryz.func117,Tryz.ntmps117
  go_wp2
  go_ret;exact ⟨rfl,Ext.refl _⟩
 ·have hz:(Lib.decDigits u==[48])=false:=by rw [Q9,decide_eq_false hu]
  have hr:I (-(u:Int))=S (45::Lib.decDigits u):=by unfold I;rw [Zj (by omega)];congr 2;simp
  rw [hr];clear hr hu
  unfold D;generalize Lib.decDigits u=l at *
  go_enter Tryz.func117,Tryz.ntmps117
  go_wp2
  go_ret;exact ⟨KN (by simp only [S];congr 1),Ext.refl _⟩
theorem XE (b:Bool) (u:Nat) (hl:Lib.nDigits u<=LIM) (w:World):Calls Tryz.prog 117 #[.bool b,D u] w λe w'=>e = .returned (I (if b then -(u:Int) else u))/\Ext w w':=by
 cases b
 ·exact Khk u w
 ·exact Khj u hl w
theorem Kah {z:Int} (hl:nd z<=LIM) (w:World):Calls Tryz.prog 75 #[I z] w λe w'=>e = .returned (I (-z))/\Ext w w':=by
  by_cases hz:z<0
  · have H:=hid (show -z=(z.natAbs:Int) by omega)
    have H1:=hid (Kcf hz hl);clear hl hz
    go_enter Tryz.func75,Tryz.ntmps75
    go_wp2_with (first
      | (go_at_call 116;refine (H1.out _).mono ?_;rintro e w1 ⟨rfl,hb1⟩)
      | (go_at_call 117;refine (Khk _ _).mono ?_;rintro e w2 ⟨rfl,hb2⟩))
    go_ret;exact ⟨KN (by rw [H.out];rfl),hb1.trans hb2⟩
  · have H:=hid (show -z = -(z.natAbs:Int) by omega)
    have H1:=hid (Kcg (z:=z) (by omega));have H2:=hid (show Lib.nDigits z.natAbs<=LIM from hl);clear hl hz
    go_enter Tryz.func75,Tryz.ntmps75
    go_wp2_with (first
      | (go_at_call 116;refine (H1.out _).mono ?_;rintro e w1 ⟨rfl,hb1⟩)
      | (go_at_call 117;refine (Khj _ H2.out _).mono ?_;rintro e w2 ⟨rfl,hb2⟩))
    go_ret;exact ⟨KN (by rw [H.out];rfl),hb1.trans hb2⟩
theorem Kag {z:Int} (hl:nd z<=LIM) (w:World):Calls Tryz.prog 82 #[I z] w λe w'=>e = .returned (I (z.natAbs:Int))/\Ext w w':=by
  have H1:Hid (∀w,∃b,Calls Tryz.prog 116 #[I z] w λe w'=>e = .returned (.tuple #[.bool b,D z.natAbs])/\Ext w w'):=by
    intro w
    by_cases hz:z<0
    · exact ⟨true,Kcf hz hl w⟩
    · exact ⟨false,Kcg (by omega) w⟩
  have H:=hid (show I (z.natAbs:Int)=D z.natAbs by unfold I D;rw [Yk]);clear hl;obtain ⟨b,hc⟩:=H1.out w;have H2:=hid hc;clear H1 hc
  go_enter Tryz.func82,Tryz.ntmps82
  go_wp2_with (first
    | (go_at_call 116;refine H2.out.mono ?_;rintro e w1 ⟨rfl,hb1⟩))
  go_ret;exact ⟨KN (by rw [H.out];rfl),hb1⟩
theorem ZJ (z:Int) (w:World):Calls Tryz.prog 38 #[I z] w λe w'=>e = .returned (.int .i64 z.sign)/\Ext w w':=by
 rcases Int.lt_trichotomy z 0 with h | h | h
 ·rw [show I z=S (45::Lib.decDigits z.natAbs) by unfold I;rw [Zj h],Int.sign_eq_neg_one_of_neg h];clear h;generalize Lib.decDigits z.natAbs=l;have h2:(((⟨(45::l).toArray⟩:ByteArray)[0]'(by show 0<(45::l).toArray.size;simp)).toNat:Int)=45:=rfl
  go_enter Tryz.func38,Tryz.ntmps38
  go_wp2
  go_ret;exact ⟨rfl,Ext.refl _⟩
 ·subst h;unfold I;rw [Kav]
  go_enter Tryz.func38,Tryz.ntmps38
  go_wp2
  go_ret;exact ⟨rfl,Ext.refl _⟩
 ·rw [show I z=S (Lib.decDigits z.natAbs) by unfold I;rw [Q5 (by omega)],Int.sign_eq_one_of_pos h];have hz:(Lib.decDigits z.natAbs==[48])=false:=by rw [Q9,decide_eq_false (by omega)]
  obtain ⟨c,l,e,hd,_⟩:=Xa z.natAbs;rw [e] at hz;rw [e];clear e h
  have h1:((c.toNat:Int)==45)=false:=beq_eq_false_iff_ne.2 (by have:=hd.1;omega);have h2:(((⟨(c::l).toArray⟩:ByteArray)[0]'(by show 0<(c::l).toArray.size;simp)).toNat:Int)=c.toNat:=rfl;clear hd
  go_enter Tryz.func38,Tryz.ntmps38
  go_wp2
  go_ret;exact ⟨rfl,Ext.refl _⟩
structure Sl (w:World) (ga:Option Addr) (gb go:Nat) (xs:List Value):Prop where
 addr:0<xs.length->ga=some ⟨gb,go,none⟩
 cell : ∀i x,xs[i]? = some x->w.cell? ⟨gb,go+i,none⟩=some x
theorem Sl.ext {w w':World} {ga:Option Addr} {gb go:Nat} {xs:List Value} (h:Sl w ga gb go xs) (he:Ext w w'):Sl w' ga gb go xs :=
 ⟨h.addr,λi x hx=>he.cell (h.cell i x hx)⟩
theorem Sl.nil (w:World) (ga:Option Addr) (gb go:Nat):Sl w ga gb go []:=⟨λh=>by simp at h,λi x h=>by simp at h⟩
theorem Sl.take {w:World} {ga:Option Addr} {gb go:Nat} {xs:List Value} (h:Sl w ga gb go xs) (n:Nat):Sl w ga gb go (xs.take n) :=
 ⟨λh'=>h.addr (by simp at h';omega),λi x hx=>h.cell i x (by
  rw [List.getElem?_take] at hx;split at hx
  ·exact hx
  ·cases hx)⟩
theorem Sl.lt {w:World} {ga:Option Addr} {gb go:Nat} {xs:List Value} (h:Sl w ga gb go xs) (hx:0<xs.length):gb<w.heap.size:=by
 have:=h.cell 0 xs[0] (List.getElem?_eq_getElem hx);exact World.block_lt_of_cell? _ _ this
def us (p:List Nat):List Value:=p.map λ(d:Nat)=>Value.int .u64 (d:Int)
def is (p:List Int):List Value:=p.map λ(d:Int)=>Value.int .i64 d
@[simp] theorem Qa (l:List Nat):(us l).length=l.length:=by simp [us]
@[simp] theorem Kq (l:List Int):(is l).length=l.length:=by simp [is]
theorem ZY {p:List Nat} {i:Nat} (h:i<p.length):(us p)[i]? = some (.int .u64 (p[i]:Nat)):=by
 simp [us,List.getElem?_map,List.getElem?_eq_getElem h]
theorem Qg {p:List Int} {i:Nat} (h:i<p.length):(is p)[i]? = some (.int .i64 p[i]):=by
 simp [is,List.getElem?_map,List.getElem?_eq_getElem h]
end
section
theorem Kkm (l:List UInt8) : ∀n,n<=Zp n l:=by
 intro n;rw [Y7 l n];have:1<=10^l.length:=Nat.one_le_pow _ _ (by omega);have:=Nat.mul_le_mul_left n this;omega
theorem Kpt : ∀(l:List UInt8) (acc:Nat),(∀c∈l,Z5 c)->Zp acc l<18446744073709551616->Lib.parseUint10 acc l = .ok (Zp acc l)
 | [],acc,_,_=>rfl
 | c::r,acc,hd,hv=>by
  have hc:=hd c (by simp);obtain ⟨e,e2,e3⟩:=KdG hc;rw [QE] at hv;have:=Kkm r (10*acc+dv c);rw [Lib.parseUint10,if_pos ⟨hc.1,hc.2⟩,if_neg (by omega),if_neg (by omega),QE,<-e,Nat.mul_comm acc 10];exact Kpt r _ (λx hx=>hd x (by simp [hx])) hv
theorem Kps : ∀(l:List UInt8) (M acc:Nat),M<18446744073709551616->(∀c∈l,Z5 c)->Zp acc l<=M->Lib.parseUintM M acc l = .ok (Zp acc l)
 | [],M,acc,_,_,_=>rfl
 | c::r,M,acc,hM,hd,hv=>by
  have hc:=hd c (by simp);obtain ⟨e,e2,e3⟩:=KdG hc;rw [QE] at hv;have:=Kkm r (10*acc+dv c);rw [Lib.parseUintM,if_pos ⟨hc.1,hc.2⟩,if_neg (by omega),if_neg (by omega),QE,<-e,Nat.mul_comm acc 10];exact Kps r M _ hM (λx hx=>hd x (by simp [hx])) hv
theorem KhD : ∀(l:List UInt8) (M acc:Nat),(∀c∈l,Z5 c)->acc<=M->M<Zp acc l->Lib.parseUintM M acc l = .range
 | [],M,acc,_,h1,h2=>by rw [XI] at h2;omega
 | c::r,M,acc,hd,h1,hv=>by
  have hc:=hd c (by simp);obtain ⟨e,e2,e3⟩:=KdG hc;rw [QE] at hv;rw [Lib.parseUintM,if_pos ⟨hc.1,hc.2⟩]
  by_cases h3:1844674407370955162<=acc
  ·rw [if_pos h3]
  ·rw [if_neg h3]
   by_cases h4:M<acc*10+(c.toNat-48)
   ·rw [if_pos h4]
   ·rw [if_neg h4,<-e,Nat.mul_comm acc 10];exact KhD r M _ (λx hx=>hd x (by simp [hx])) (by omega) hv
theorem ZN {u:Nat} (h:u<18446744073709551616):Lib.parseUintB 64 (Lib.decDigits u) = .ok u:=by
 unfold Lib.parseUintB;rw [if_neg (KaV u),Kps _ _ 0 (by decide) (XQ u) (by rw [ZP];omega),ZP]
theorem KaL {u:Nat} (h:18446744073709551616<=u):Lib.parseUintB 64 (Lib.decDigits u) = .range:=by
 unfold Lib.parseUintB;rw [if_neg (KaV u),KhD _ _ 0 (XQ u) (by omega) (by rw [ZP];omega)]
theorem YN {u:Nat} {c:UInt8} {t:List UInt8} (e:Lib.decDigits u=c::t) : ¬(c.toNat=43\/c.toNat=45) /\ ¬c.toNat=45:=by
 have:=XQ u c (by rw [e];simp);unfold Z5 at this;omega
theorem KeW {z:Int} (h1 : -9223372036854775808<=z) (h2:z<=9223372036854775807):Lib.parseIntB 64 (Lib.itoa z) = .ok z:=by
 by_cases hz:z<0
 ·rw [Zj hz];unfold Lib.parseIntB;have e:(45:UInt8).toNat=45:=rfl;simp only [e,or_true,if_true];rw [ZN (by omega)];simp only [not_true,false_and,if_false,true_and];rw [if_neg (by omega)];simp;omega
 ·rw [Q5 (by omega)];obtain ⟨c,t,e,_⟩:=Xa z.natAbs;obtain ⟨hs1,hs2⟩:=YN e;have hp:=ZN (u:=z.natAbs) (by omega);rw [e] at hp ⊢;unfold Lib.parseIntB;simp only [if_neg hs1,hp];simp only [hs2,not_false_iff,true_and,false_and,if_false]
  rw [if_neg (by omega)];simp;omega
theorem Kd3 {z:Int} (h:z < -9223372036854775808\/9223372036854775807<z):Lib.parseIntB 64 (Lib.itoa z) = .range:=by
 by_cases hz:z<0
 ·rw [Zj hz];unfold Lib.parseIntB;have e:(45:UInt8).toNat=45:=rfl;simp only [e,or_true,if_true]
  by_cases hb:z.natAbs<18446744073709551616
  ·rw [ZN hb];simp only [not_true,false_and,if_false,true_and];rw [if_pos (by omega)]
  ·rw [KaL (by omega)]
 ·rw [Q5 (by omega)];obtain ⟨c,t,e,_⟩:=Xa z.natAbs;obtain ⟨hs1,hs2⟩:=YN e
  by_cases hb:z.natAbs<18446744073709551616
  ·have hp:=ZN (u:=z.natAbs) hb;rw [e] at hp ⊢;unfold Lib.parseIntB;simp only [if_neg hs1,hp];simp only [hs2,not_false_iff,true_and]
   rw [if_pos (by omega)]
  ·have hp:=KaL (u:=z.natAbs) (by omega);rw [e] at hp ⊢;unfold Lib.parseIntB;simp only [if_neg hs1,hp]
theorem Ke6 {z:Int} (h1 : -9223372036854775808<=z) (h2:z<=9223372036854775807):Lib.atoiAll (Lib.itoa z) = .ok z:=by
 have hpU : ∀u:Nat,u<18446744073709551616->Lib.parseMag (Lib.decDigits u) = .ok u:=λu hu=>by
  unfold Lib.parseMag;rw [if_neg (KaV u),Kpt _ 0 (XQ u) (by rw [ZP];omega),ZP]
 by_cases hz:z<0
 ·rw [Zj hz];unfold Lib.atoiAll;have e:(45:UInt8).toNat=45:=rfl;simp only [e,or_true,if_true];rw [hpU _ (by omega)];simp only [not_true,false_and,if_false,true_and];rw [if_neg (by omega)];simp;omega
 ·rw [Q5 (by omega)];obtain ⟨c,t,e,_⟩:=Xa z.natAbs;obtain ⟨hs1,hs2⟩:=YN e;have hp:=hpU z.natAbs (by omega);rw [e] at hp ⊢;unfold Lib.atoiAll;simp only [if_neg hs1,hp];simp only [hs2,not_false_iff,true_and,false_and,if_false]
  rw [if_neg (by omega)];simp;omega
end
end Go.Proofs.YtdmaofimeknkbaaGreatDoor
