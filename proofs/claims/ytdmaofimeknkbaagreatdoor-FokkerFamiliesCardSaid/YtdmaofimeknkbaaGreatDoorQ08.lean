/- Part 8 of the proof of the claim: contracts of the functions that it reaches, and plain laws; no condition. -/
import Derived.Test.YtdmaofimeknkbaaGreatDoorQ07
import Derived.Test.YtdmaofimeknkbaaGreatDoorQ01
import Derived.StillTail
import Derived.Lib.QuietBelow
set_option maxRecDepth 100000
set_option maxHeartbeats 20000000
namespace Go.Proofs.YtdmaofimeknkbaaGreatDoor
section
open Go.RowKit Go.Sort
open Lib (hid)
def Kt (m:Nat) (z:Int):Bool:=decide ((Lib.itoa z).length<=m)
theorem K6 {z:Int} {m:Nat} (hn:nd z<=LIM) (hm:m<=18) (w:World) :
  Calls Tryz.prog 115 #[I z,.int .i64 m] w λe w'=>e = .returned (.tuple #[.int .i64 (if Kt m z then z else 0),.bool (Kt m z)])/\Ext w w':=by
 by_cases h:(Lib.itoa z).length<=m
 ·have e:Kt m z=true:=decide_eq_true h;rw [e];exact KiL h hm w
 ·have e:Kt m z=false:=decide_eq_false h;rw [e];exact KkZ hn (by omega) hm w
theorem QO {m:Nat} {z:Int} (h:Kt m z=true):z.natAbs<10^m:=by
 refine KE (k:=m) ?_;have:=of_decide_eq_true h;rw [Zb] at this;unfold nd at this;omega
theorem ZG {z:Int} (hl:nd z<=LIM) (w:World):Calls Tryz.prog 116 #[I z] w λe w'=>e = .returned (.tuple #[.bool (decide (z<0)),D z.natAbs])/\Ext w w':=by
 by_cases hz:z<0
 ·rw [decide_eq_true hz];exact Kcf hz hl w
 ·rw [decide_eq_false hz];exact Kcg (by omega) w
theorem XJ (z:Int):(z<0/\decide (z<0)=true)\/(0<=z/\decide (z<0)=false):=by
 by_cases h:z<0
 ·exact .inl ⟨h,decide_eq_true h⟩
 ·exact .inr ⟨by omega,decide_eq_false h⟩
theorem KlJ {a b:Int} (h1:Kt 18 a=true) (h2:Kt 18 b=true) (ha:nd a<=LIM) (hb:nd b<=LIM) {w:World} (hL:Laid w) :
  Calls Tryz.prog 114 #[I a,I b] w λe w'=>e = .returned (I (a+b))/\Ext w w':=by
 have HL:=hid hL;have b1:=QO h1;have b2:=QO h2;have l1:=hid (K6 (z:=a) (m:=18) ha (by omega));have l2:=hid (K6 (z:=b) (m:=18) hb (by omega));rw [h1] at l1;rw [h2] at l2
 have hof:=hid (λw hL=>Qb (n:=a+b) (w:=w) (by omega) (by omega) hL);have hwr:IntKind.i64.wrap (a+b)=a+b:=by rw [IntKind.wrap_i64];omega
 clear b1 b2 h1 h2 ha hb hL
 go_enter Tryz.func114,Tryz.ntmps114
 go_wp2_with fail;refine (l1.out _).mono ?_;rintro e w1 ⟨rfl,hE1⟩;go_wp2_with fail;refine (l2.out _).mono ?_;rintro e w2 ⟨rfl,hE2⟩;go_wp2_with fail;refine (hof.out _ (HL.out.ext (hE1.trans hE2))).mono ?_;rintro e w3 ⟨rfl,hE3⟩;go_wp2_with fail;go_ret;exact ⟨rfl,(hE1.trans hE2).trans hE3⟩
theorem KgA {a b : Int} (hs : Kt 18 a = false \/ Kt 18 a = true /\ Kt 18 b = false) (ha : nd a < LIM) (hb : nd b < LIM) {w : World} (hL : Laid w) :
    Calls Tryz.prog 114 #[I a,I b] w λe w'=>e = .returned (I (a+b))/\Ext w w':=by
  have HL:=hid hL;have l1:=hid (K6 (z:=a) (m:=18) (Nat.le_of_lt ha) (by omega));have l2:=hid (K6 (z:=b) (m:=18) (Nat.le_of_lt hb) (by omega));have s1:=hid (ZG (z:=a) (Nat.le_of_lt ha));have s2:=hid (ZG (z:=b) (Nat.le_of_lt hb));have ha':Lib.nDigits a.natAbs<LIM:=ha;have hb':Lib.nDigits b.natAbs<LIM:=hb;have hadd:=hid (λw hL=>KgY (w:=w) ha' hb' hL);have hcm:=hid (XP (u:=a.natAbs) (v:=b.natAbs) (Nat.le_of_lt ha) (Nat.le_of_lt hb))
  have hj:Lib.nDigits (a.natAbs+b.natAbs)<=LIM:=by
    have:=KaX (a.natAbs:Int) (b.natAbs:Int);unfold nd at this;rw [show ((a.natAbs:Int)+(b.natAbs:Int)).natAbs=a.natAbs+b.natAbs by omega] at this;simp only [Int.natAbs_natCast] at this;omega
  have hj1:Lib.nDigits (a.natAbs-b.natAbs)<=LIM:=Nat.le_trans (Qx (Nat.sub_le _ _)) (Nat.le_of_lt ha');have hj2:Lib.nDigits (b.natAbs-a.natAbs)<=LIM:=Nat.le_trans (Qx (Nat.sub_le _ _)) (Nat.le_of_lt hb');have J:=hid (λc w=>XE c _ hj w);have J1:=hid (λc w=>XE c _ hj1 w);have J2:=hid (λc w=>XE c _ hj2 w);have sub1:Hid (b.natAbs<=a.natAbs -> ∀w (_:Laid w),Calls Tryz.prog 124 #[D a.natAbs,D b.natAbs] w λe w'=>e = .returned (.tuple #[D (a.natAbs-b.natAbs),.int .i64 0])/\Ext w w'):=hid (λh w hL=>KdC (w:=w) ha' h hL);have sub2:Hid (a.natAbs<=b.natAbs -> ∀w (_:Laid w),Calls Tryz.prog 124 #[D b.natAbs,D a.natAbs] w λe w'=>e = .returned (.tuple #[D (b.natAbs-a.natAbs),.int .i64 0])/\Ext w w'):=hid (λh w hL=>KdC (w:=w) hb' h hL);clear ha hb hL ha' hb' hj hj1 hj2
  have dv : (a.natAbs < b.natAbs /\ Zr a.natAbs b.natAbs = -1 /\ Hid (∀w (_ : Laid w), Calls Tryz.prog 124 #[D b.natAbs, D a.natAbs] w λe w' => e = .returned (.tuple #[D (b.natAbs - a.natAbs), .int .i64 0]) /\ Ext w w') /\ Hid (∀c w, Calls Tryz.prog 117 #[.bool c, D (b.natAbs - a.natAbs)] w λe w' => e = .returned (I (if c then -((b.natAbs - a.natAbs : Nat) : Int) else (b.natAbs - a.natAbs : Nat))) /\ Ext w w'))
      \/ (b.natAbs<=a.natAbs/\0<=Zr a.natAbs b.natAbs/\Hid (∀w (_:Laid w),Calls Tryz.prog 124 #[D a.natAbs,D b.natAbs] w λe w'=>e = .returned (.tuple #[D (a.natAbs-b.natAbs),.int .i64 0])/\Ext w w')/\Hid (∀c w,Calls Tryz.prog 117 #[.bool c,D (a.natAbs-b.natAbs)] w λe w'=>e = .returned (I (if c then -((a.natAbs-b.natAbs:Nat):Int) else (a.natAbs-b.natAbs:Nat)))/\Ext w w')):=by
    unfold Zr
    by_cases h:a.natAbs<b.natAbs
    · exact .inl ⟨h,by rw [if_pos h],hid (sub2.out (Nat.le_of_lt h)),J2⟩
    · exact .inr ⟨by omega,by rw [if_neg h];split<;>omega,hid (sub1.out (by omega)),J1⟩
  clear sub1 sub2 J1 J2;generalize Zr a.natAbs b.natAbs=cc at *;have hE:=Ext.refl w
  rcases XJ a with ⟨ga,ea⟩ | ⟨ga,ea⟩<;>rcases XJ b with ⟨gb,eb⟩ | ⟨gb,eb⟩<;>rw [ea] at s1<;>rw [eb] at s2
  case inl.inl =>
    have R:=hid (show -((a.natAbs:Int)+(b.natAbs:Int))=a+b by omega);clear dv ga gb ea eb hcm
    rcases hs with h1 | ⟨h1,h2⟩
    all_goals
      rw [h1] at l1
      try rw [h2] at l2
      go_enter Tryz.func114,Tryz.ntmps114
      go_wp2_with (first
        | (go_at_call 115;(first | (refine (l1.out _).mono ?_;clear l1) | refine (l2.out _).mono ?_);rintro e w1 ⟨rfl,hE1⟩;replace hE:=hE.trans hE1;clear hE1)
        | (go_at_call 116;(first | (refine (s1.out _).mono ?_;clear s1) | refine (s2.out _).mono ?_);rintro e w1 ⟨rfl,hE1⟩;replace hE:=hE.trans hE1;clear hE1)
        | (go_at_call 123;refine (hadd.out _ (HL.out.ext hE)).mono ?_;rintro e w1 ⟨rfl,hE1⟩;replace hE:=hE.trans hE1;clear hE1)
        | (go_at_call 117;refine (J.out _ _).mono ?_;rintro e w1 ⟨rfl,hE1⟩;replace hE:=hE.trans hE1;clear hE1))
      go_ret;exact ⟨KN (congrArg I R.out),hE⟩
  case inr.inr =>
    have R:=hid (show (a.natAbs:Int)+(b.natAbs:Int)=a+b by omega);clear dv ga gb ea eb hcm
    rcases hs with h1 | ⟨h1,h2⟩
    all_goals
      rw [h1] at l1
      try rw [h2] at l2
      go_enter Tryz.func114,Tryz.ntmps114
      go_wp2_with (first
        | (go_at_call 115;(first | (refine (l1.out _).mono ?_;clear l1) | refine (l2.out _).mono ?_);rintro e w1 ⟨rfl,hE1⟩;replace hE:=hE.trans hE1;clear hE1)
        | (go_at_call 116;(first | (refine (s1.out _).mono ?_;clear s1) | refine (s2.out _).mono ?_);rintro e w1 ⟨rfl,hE1⟩;replace hE:=hE.trans hE1;clear hE1)
        | (go_at_call 123;refine (hadd.out _ (HL.out.ext hE)).mono ?_;rintro e w1 ⟨rfl,hE1⟩;replace hE:=hE.trans hE1;clear hE1)
        | (go_at_call 117;refine (J.out _ _).mono ?_;rintro e w1 ⟨rfl,hE1⟩;replace hE:=hE.trans hE1;clear hE1))
      go_ret;exact ⟨KN (congrArg I R.out),hE⟩
  all_goals
    clear J hadd
    rcases dv with ⟨dl,dc,Sb,Jb⟩ | ⟨dl,dc,Sb,Jb⟩
    all_goals
      first
        | have R:=hid (show -((a.natAbs-b.natAbs:Nat):Int)=a+b by omega)
        | have R:=hid (show ((a.natAbs-b.natAbs:Nat):Int)=a+b by omega)
        | have R:=hid (show -((b.natAbs-a.natAbs:Nat):Int)=a+b by omega)
        | have R:=hid (show ((b.natAbs-a.natAbs:Nat):Int)=a+b by omega)
      try rw [dc] at hcm
      clear ga gb ea eb dl
      rcases hs with h1 | ⟨h1,h2⟩
      all_goals
        rw [h1] at l1
        try rw [h2] at l2
        go_enter Tryz.func114,Tryz.ntmps114
        go_wp2_with (first
          | (go_at_call 115;(first | (refine (l1.out _).mono ?_;clear l1) | refine (l2.out _).mono ?_);rintro e w1 ⟨rfl,hE1⟩;replace hE:=hE.trans hE1;clear hE1)
          | (go_at_call 116;(first | (refine (s1.out _).mono ?_;clear s1) | refine (s2.out _).mono ?_);rintro e w1 ⟨rfl,hE1⟩;replace hE:=hE.trans hE1;clear hE1)
          | (go_at_call 130;refine (hcm.out _).mono ?_;rintro e w1 ⟨rfl,hE1⟩;replace hE:=hE.trans hE1;clear hE1)
          | (go_at_call 124;refine (Sb.out _ (HL.out.ext hE)).mono ?_;rintro e w1 ⟨rfl,hE1⟩;replace hE:=hE.trans hE1;clear hE1)
          | (go_at_call 117;refine (Jb.out _ _).mono ?_;rintro e w1 ⟨rfl,hE1⟩;replace hE:=hE.trans hE1;clear hE1))
        go_ret;exact ⟨KN (congrArg I R.out),hE⟩
theorem KfR {a b:Int} (ha:nd a<LIM) (hb:nd b<LIM) {w:World} (hL:Laid w) :
  Calls Tryz.prog 114 #[I a,I b] w λe w'=>e = .returned (I (a+b))/\Ext w w':=by
 cases h1:Kt 18 a
 ·exact KgA (.inl h1) ha hb hL
 ·cases h2:Kt 18 b
  ·exact KgA (.inr ⟨h1,h2⟩) ha hb hL
  ·exact KlJ h1 h2 (Nat.le_of_lt ha) (Nat.le_of_lt hb) hL
theorem Ka4 {a b:Int} (ha:nd a<LIM) (hb:nd b<LIM) {w:World} (hL:Laid w) :
  Calls Tryz.prog 72 #[I a,I b] w λe w'=>e = .returned (I (a-b))/\Ext w w':=by
 have HL:=hid hL;have H1:=hid (Kah (z:=b) (Nat.le_of_lt hb));have H2:=hid (λw hL=>KfR (a:=a) (b := -b) (w:=w) ha (by rw [Kb4];exact hb) hL);have R:=hid (show a + -b=a-b by omega);clear ha hb hL
 go_enter Tryz.func72,Tryz.ntmps72
 go_wp2_with fail;refine (H1.out _).mono ?_;rintro e w1 ⟨rfl,hE1⟩;go_wp2_with fail;refine (H2.out _ (HL.out.ext hE1)).mono ?_;rintro e w2 ⟨rfl,hE2⟩;go_wp2_with fail;go_ret;exact ⟨KN (congrArg I R.out),hE1.trans hE2⟩
theorem KlO {a b : Int} (h1 : Kt 9 a = true) (h2 : Kt 9 b = true) (ha : nd a <= LIM) (hb : nd b <= LIM) {w : World} (hL : Laid w) :
    Calls Tryz.prog 73 #[I a,I b] w λe w'=>e = .returned (I (a*b))/\Ext w w':=by
  have HL:=hid hL;have b1:=QO h1;have b2:=QO h2
  have hab:(a*b).natAbs<10^18:=by
    rw [Int.natAbs_mul];have h:=Nat.mul_lt_mul'' b1 b2;have e:(10:Nat)^9*10^9=10^18:=by rw [<-Nat.pow_add]
    rw [e] at h;exact h
  have l1:=hid (K6 (z:=a) (m:=9) ha (by omega));have l2:=hid (K6 (z:=b) (m:=9) hb (by omega));rw [h1] at l1;rw [h2] at l2
  obtain ⟨z,hz⟩ : ∃z,z=a*b:=⟨_,rfl⟩
  have habz:a*b=z:=hz.symm;rw [habz] at hab ⊢;have hof:=hid (λw hL=>Qb (n:=z) (w:=w) (by omega) (by omega) hL);have hwr:IntKind.i64.wrap z=z:=by rw [IntKind.wrap_i64];omega
  clear b1 b2 h1 h2 ha hb hL hab hz;have hE:=Ext.refl w
  go_enter Tryz.func73,Tryz.ntmps73
  go_wp2_with (first
    | (go_at_call 115;(first | (refine (l1.out _).mono ?_;clear l1) | refine (l2.out _).mono ?_);rintro e w1 ⟨rfl,hE1⟩;replace hE:=hE.trans hE1;clear hE1)
    | (go_at_call 22;refine (hof.out _ (HL.out.ext hE)).mono ?_;rintro e w1 ⟨rfl,hE1⟩;replace hE:=hE.trans hE1;clear hE1))
  go_ret;exact ⟨rfl,hE⟩
theorem KgF {a b : Int} (hs : Kt 9 a = false \/ Kt 9 a = true /\ Kt 9 b = false) (hab : nd a + nd b <= LIM) {w : World} (hL : Laid w) :
    Calls Tryz.prog 73 #[I a,I b] w λe w'=>e = .returned (I (a*b))/\Ext w w':=by
  have HL:=hid hL;have l1:=hid (K6 (z:=a) (m:=9) (by omega) (by omega));have l2:=hid (K6 (z:=b) (m:=9) (by omega) (by omega));have s1:=hid (ZG (z:=a) (by omega));have s2:=hid (ZG (z:=b) (by omega));have hmul:=hid (λw hL=>Kmi (u:=a.natAbs) (v:=b.natAbs) (w:=w) hab hL)
  have hj:Lib.nDigits (a.natAbs*b.natAbs)<=LIM:=by
    have:=QY (a.natAbs:Int) (b.natAbs:Int);unfold nd at this hab;rw [show ((a.natAbs:Int)*(b.natAbs:Int)).natAbs=a.natAbs*b.natAbs by rw [Int.natAbs_mul];rfl] at this;simp only [Int.natAbs_natCast] at this;omega
  have J:=hid (λc w=>XE c _ hj w);have hval:((a.natAbs*b.natAbs:Nat):Int)=a.natAbs*b.natAbs:=Int.natCast_mul _ _
  have R:Hid (∀c:Bool,c=(decide (a<0) != decide (b<0))->(if c then -((a.natAbs*b.natAbs:Nat):Int) else ((a.natAbs*b.natAbs:Nat):Int))=a*b):=by
    refine hid λc hc => ?_
    subst hc;rw [hval]
    rcases XJ a with ⟨ga,ea⟩ | ⟨ga,ea⟩<;>rcases XJ b with ⟨gb,eb⟩ | ⟨gb,eb⟩<;>rw [ea,eb]
    · rw [Int.ofNat_natAbs_of_nonpos (by omega),Int.ofNat_natAbs_of_nonpos (by omega)];simp [Int.neg_mul_neg]
    · rw [Int.ofNat_natAbs_of_nonpos (by omega),Int.natAbs_of_nonneg gb];simp [Int.neg_mul]
    · rw [Int.ofNat_natAbs_of_nonpos (a:=b) (by omega),Int.natAbs_of_nonneg ga];simp [Int.mul_neg]
    · rw [Int.natAbs_of_nonneg gb,Int.natAbs_of_nonneg ga];simp
  clear hab hL hj hval;generalize a.natAbs*b.natAbs=m at *;generalize a*b=z at *;have hE:=Ext.refl w
  rcases XJ a with ⟨ga,ea⟩ | ⟨ga,ea⟩<;>rcases XJ b with ⟨gb,eb⟩ | ⟨gb,eb⟩<;>rw [ea] at s1 R<;>rw [eb] at s2 R
  all_goals
    first
      | have R:=hid (R.out true rfl)
      | have R:=hid (R.out false rfl)
    clear ga gb ea eb
    rcases hs with h1 | ⟨h1,h2⟩
    all_goals
      rw [h1] at l1
      try rw [h2] at l2
      go_enter Tryz.func73,Tryz.ntmps73
      go_wp2_with (first
        | (go_at_call 115;(first | (refine (l1.out _).mono ?_;clear l1) | refine (l2.out _).mono ?_);rintro e w1 ⟨rfl,hE1⟩;replace hE:=hE.trans hE1;clear hE1)
        | (go_at_call 116;(first | (refine (s1.out _).mono ?_;clear s1) | refine (s2.out _).mono ?_);rintro e w1 ⟨rfl,hE1⟩;replace hE:=hE.trans hE1;clear hE1)
        | (go_at_call 118;refine (hmul.out _ (HL.out.ext hE)).mono ?_;rintro e w1 ⟨rfl,hE1⟩;replace hE:=hE.trans hE1;clear hE1)
        | (go_at_call 117;refine (J.out _ _).mono ?_;rintro e w1 ⟨rfl,hE1⟩;replace hE:=hE.trans hE1;clear hE1))
      go_ret;exact ⟨KN (congrArg I R.out),hE⟩
theorem ZR {a b:Int} (hab:nd a+nd b<=LIM) {w:World} (hL:Laid w) :
  Calls Tryz.prog 73 #[I a,I b] w λe w'=>e = .returned (I (a*b))/\Ext w w':=by
 cases h1:Kt 9 a
 ·exact KgF (.inl h1) hab hL
 ·cases h2:Kt 9 b
  ·exact KgF (.inr ⟨h1,h2⟩) hab hL
  ·exact KlO h1 h2 (by omega) (by omega) hL
def Jc (a b:Int):Int:=if a<b then -1 else if b<a then 1 else 0
theorem JG {a b : Int} (ha : nd a <= LIM) (hb : nd b <= LIM) (w : World) :
    Calls Tryz.prog 98 #[I a,I b] w λe w'=>e = .returned (.int .i64 (Jc a b))/\Ext w w':=by
  have g1:=hid (ZJ a);have g2:=hid (ZJ b);have s1:=hid (ZG (z:=a) ha);have s2:=hid (ZG (z:=b) hb);have c1:=hid (XP (u:=a.natAbs) (v:=b.natAbs) ha hb);have c2:=hid (XP (u:=b.natAbs) (v:=a.natAbs) hb ha);clear ha hb;have hE:=Ext.refl w
  have sg : ∀z:Int,(z<0/\z.sign = -1)\/(z=0/\z.sign=0)\/(0<z/\z.sign=1):=λz=>by
    rcases Int.lt_trichotomy z 0 with h | h | h
    · exact .inl ⟨h,Int.sign_eq_neg_one_of_neg h⟩
    · exact .inr (.inl ⟨h,by subst h;rfl⟩)
    · exact .inr (.inr ⟨h,Int.sign_eq_one_of_pos h⟩)
  rcases sg a with ⟨ga,ea⟩ | ⟨ga,ea⟩ | ⟨ga,ea⟩<;>rcases sg b with ⟨gb,eb⟩ | ⟨gb,eb⟩ | ⟨gb,eb⟩<;>rw [ea] at g1<;>rw [eb] at g2
  all_goals
    first
      | (have R : Jc a b = -1 := by (unfold Jc;rw [if_pos (by omega)])
         rw [R])
      | (have R : Jc a b = 1 := by (unfold Jc;rw [if_neg (by omega), if_pos (by omega)])
         rw [R])
      | (have R : Zr a.natAbs b.natAbs = Jc a b := by
          unfold Jc Zr
          (repeat' split)<;>omega
         rw [R] at c1
         clear c2)
      | (have R : Zr b.natAbs a.natAbs = Jc a b := by
          unfold Jc Zr
          (repeat' split)<;>omega
         rw [R] at c2
         clear c1)
    try rw [decide_eq_true ga] at s1
    try rw [decide_eq_false (p:=a<0) (by omega)] at s1
    clear ga gb ea eb R sg;generalize Jc a b=cc at *
    go_enter Tryz.func98,Tryz.ntmps98
    go_wp2_with (first
        | (go_at_call 38;(first | (refine (g1.out _).mono ?_;clear g1) | refine (g2.out _).mono ?_);rintro e w1 ⟨rfl,hE1⟩;replace hE:=hE.trans hE1;clear hE1)
        | (go_at_call 116;(first | (refine (s1.out _).mono ?_;clear s1) | refine (s2.out _).mono ?_);rintro e w1 ⟨rfl,hE1⟩;replace hE:=hE.trans hE1;clear hE1)
        | (go_at_call 130;(first | refine (c1.out _).mono ?_ | refine (c2.out _).mono ?_);rintro e w1 ⟨rfl,hE1⟩;replace hE:=hE.trans hE1;clear hE1))
    go_ret;exact ⟨rfl,hE⟩
theorem Kar {a b q r:Int} (hb:0<b) (h:r+b*q=a) (h0:0<=r) (h1:r<b):a.fdiv b=q/\a.fmod b=r:=(Int.fdiv_fmod_unique hb).2 ⟨h,h0,h1⟩
theorem Kaq {a b q r:Int} (hb:b<0) (h:r+b*q=a) (h0:b<r) (h1:r<=0):a.fdiv b=q/\a.fmod b=r:=(Int.fdiv_fmod_unique' hb).2 ⟨h,h0,h1⟩
theorem KmE {a b:Int} (hb:b≠0) :
  (a.tmod b=0/\a.fdiv b=a.tdiv b/\a.fmod b=a.tmod b)
  \/ (a.tmod b<0/\b<0/\a.fdiv b=a.tdiv b/\a.fmod b=a.tmod b)
  \/ (0<a.tmod b/\0<b/\a.fdiv b=a.tdiv b/\a.fmod b=a.tmod b)
  \/ (a.tmod b<0/\0<b/\a.fdiv b=a.tdiv b-1/\a.fmod b=a.tmod b+b)
  \/ (0<a.tmod b/\b<0/\a.fdiv b=a.tdiv b-1/\a.fmod b=a.tmod b+b):=by
 have h1:a.tmod b+b*a.tdiv b=a:=Int.tmod_add_mul_tdiv a b;have h2:(a.tmod b).natAbs<b.natAbs:=by rw [Int.natAbs_tmod];exact Nat.mod_lt _ (by omega)
 generalize a.tmod b=r at *;generalize a.tdiv b=q at *;have h3:r+b+b*(q-1)=a:=by rw [Int.mul_sub,<-h1];omega
 rcases Int.lt_trichotomy r 0 with hr | hr | hr
 ·rcases Int.lt_or_gt_of_ne hb with hb' | hb'
  ·exact .inr (.inl ⟨hr,hb',Kaq hb' h1 (by omega) (by omega)⟩)
  ·exact .inr (.inr (.inr (.inl ⟨hr,hb',Kar hb' h3 (by omega) (by omega)⟩)))
 ·rcases Int.lt_or_gt_of_ne hb with hb' | hb'
  ·exact .inl ⟨hr,Kaq hb' h1 (by omega) (by omega)⟩
  ·exact .inl ⟨hr,Kar hb' h1 (by omega) (by omega)⟩
 ·rcases Int.lt_or_gt_of_ne hb with hb' | hb'
  ·exact .inr (.inr (.inr (.inr ⟨hr,hb',Kaq hb' h3 (by omega) (by omega)⟩)))
  ·exact .inr (.inr (.inl ⟨hr,hb',Kar hb' h1 (by omega) (by omega)⟩))
theorem KgC {a b:Int} (h1:Kt 18 a=true) (h2:Kt 18 b=true) (ha:nd a<=LIM) (hb:nd b<=LIM) (hb0:b≠0) {w:World} (hL:Laid w) :
  Calls Tryz.prog 77 #[I a,I b] w λe w'=>e = .returned (.tuple #[I (a.fdiv b),I (a.fmod b),.int .i64 0])/\Ext w w':=by
 have HL:=hid hL;have b1:=QO h1;have b2:=QO h2;have l1:=hid (K6 (z:=a) (m:=18) ha (by omega));have l2:=hid (K6 (z:=b) (m:=18) hb (by omega));rw [h1] at l1;rw [h2] at l2
 have hz:(Lib.itoa b==[48])=false:=by rw [KB];exact decide_eq_false hb0
 have hbz:(b==0)=false:=beq_eq_false_iff_ne.2 hb0;have hq:(a.tdiv b).natAbs<10^18:=by rw [Int.natAbs_tdiv];exact Nat.lt_of_le_of_lt (Nat.div_le_self _ _) b1
 have hr:(a.tmod b).natAbs<b.natAbs:=by rw [Int.natAbs_tmod];exact Nat.mod_lt _ (by omega)
 have hd:=KmE (a:=a) hb0;obtain ⟨q,hqe⟩ : ∃q,q=a.tdiv b:=⟨_,rfl⟩
 obtain ⟨r,hre⟩ : ∃r,r=a.tmod b:=⟨_,rfl⟩
 rw [<-hqe] at hq hd;rw [<-hre] at hr hd;have hqe':=hqe.symm;have hre':=hre.symm;have wq:IntKind.i64.wrap q=q:=by rw [IntKind.wrap_i64];omega
 have wr:IntKind.i64.wrap r=r:=by rw [IntKind.wrap_i64];omega
 have wq1:IntKind.i64.wrap (q-1)=q-1:=by rw [IntKind.wrap_i64];omega
 have hrn:r≠0->(r != 0)=true /\ ¬r=0:=λh=>⟨bne_iff_ne.2 h,h⟩
 have hrz:r=0->(r==0)=true:=λh=>beq_iff_eq.2 h
 have o1:=hid (λw hL=>Qb (n:=a.fdiv b) (w:=w) (by omega) (by omega) hL);have o2:=hid (λw hL=>Qb (n:=a.fmod b) (w:=w) (by omega) (by omega) hL);have hE:=Ext.refl w
 rcases hd with ⟨d1,d2,d3⟩ | ⟨d1,d2,d3,d4⟩ | ⟨d1,d2,d3,d4⟩ | ⟨d1,d2,d3,d4⟩ | ⟨d1,d2,d3,d4⟩
 all_goals
  first
   | have hrr:=hrz (by omega)
   | obtain ⟨hrr,hrr0⟩:=hrn (by omega)
  clear hrz hrn
  try rw [d2] at o1
  try rw [d2]
  try rw [d3] at o1
  try rw [d3] at o2
  try rw [d3]
  try rw [d4] at o2
  try rw [d4]
  try (have dd3 : ¬r<0:=by omega)
  try (have dd4 : ¬b<0:=by omega)
  try (have dd3:r<0:=by omega)
  try (have dd4:b<0:=by omega)
  try (have dd1:decide (r<0)=false:=decide_eq_false (by omega))
  try (have dd1:decide (r<0)=true:=decide_eq_true (by omega))
  try (have dd2:decide (b<0)=false:=decide_eq_false (by omega))
  try (have dd2:decide (b<0)=true:=decide_eq_true (by omega))
  clear d2 d3
  first
   | subst d1
   | clear d1
  try clear d4
  try (have wrb:IntKind.i64.wrap (r+b)=r+b:=by rw [IntKind.wrap_i64];omega)
  clear b1 b2 h1 h2 ha hb hL hq hr hqe hre;have hbe:(b=0)=False:=eq_false hb0
  go_enter Tryz.func77,Tryz.ntmps77
  go_wp2_with fail;refine (l1.out _).mono ?_;rintro e w1 ⟨rfl,hE1⟩;go_wp2_with fail;refine (l2.out _).mono ?_;rintro e w2 ⟨rfl,hE2⟩;go_wp2_with fail
  go_region
  go_wp2_with fail;refine (o1.out _ (HL.out.ext (hE1.trans hE2).drew)).mono ?_;rintro e w3 ⟨rfl,hE3⟩;have hE13:=(hE1.trans hE2).drew.trans hE3;go_wp2_with fail;refine (o2.out _ (HL.out.ext hE13)).mono ?_;rintro e w4 ⟨rfl,hE4⟩;go_wp2_with fail
  go_ret3
  exact ⟨rfl,hE13.trans hE4⟩
theorem Kon {a b:Int} (hb:b≠0) (q r:Nat) (hq:q=a.natAbs/b.natAbs) (hr:r=a.natAbs%b.natAbs) :
  ((a<0↔b<0)/\a.fdiv b=q/\a.fmod b=(if b<0 then -(r:Int) else r)) \/
  (¬(a<0↔b<0)/\r=0/\a.fdiv b = -(q:Int)/\a.fmod b=0) \/
  (¬(a<0↔b<0)/\r≠0/\a.fdiv b = -((q+1:Nat):Int)/\a.fmod b=(if b<0 then -((b.natAbs-r:Nat):Int) else ((b.natAbs-r:Nat):Int))):=by
 have hbn:0<b.natAbs:=by omega
 have h1:r+b.natAbs*q=a.natAbs:=by rw [hq,hr];exact Nat.mod_add_div _ _
 have h2:r<b.natAbs:=by rw [hr];exact Nat.mod_lt _ hbn
 clear hq hr;have h1':(r:Int)+(b.natAbs:Int)*q=a.natAbs:=by rw [<-h1];simp
 generalize hB:b.natAbs=B at *;generalize hA:a.natAbs=A at *
 by_cases ha:a<0<;>by_cases hb':b<0
 ·have ea:a = -(A:Int):=by omega
  have eb:b = -(B:Int):=by omega
  refine .inl ⟨by simp [ha,hb'],?_⟩;rw [if_pos hb'];refine Kaq hb' ?_ (by omega) (by omega);rw [ea,eb,<-h1'];grind
 ·have ea:a = -(A:Int):=by omega
  have eb:b=(B:Int):=by omega
  by_cases hr:r=0
  ·refine .inr (.inl ⟨by simp [ha,hb'],hr,?_⟩);refine Kar (by omega) ?_ (by omega) (by omega);rw [ea,eb,<-h1',hr];grind
  ·refine .inr (.inr ⟨by simp [ha,hb'],hr,?_⟩);rw [if_neg hb'];refine Kar (by omega) ?_ (by omega) (by omega);rw [ea,eb,<-h1',Int.natCast_sub (by omega)];grind
 ·have ea:a=(A:Int):=by omega
  have eb:b = -(B:Int):=by omega
  by_cases hr:r=0
  ·refine .inr (.inl ⟨by simp [ha,hb'],hr,?_⟩);refine Kaq (by omega) ?_ (by omega) (by omega);rw [ea,eb,<-h1',hr];grind
  ·refine .inr (.inr ⟨by simp [ha,hb'],hr,?_⟩);rw [if_pos hb'];refine Kaq (by omega) ?_ (by omega) (by omega);rw [ea,eb,<-h1',Int.natCast_sub (by omega)];grind
 ·have ea:a=(A:Int):=by omega
  have eb:b=(B:Int):=by omega
  refine .inl ⟨by simp [ha,hb'],?_⟩;rw [if_neg hb'];refine Kar (by omega) ?_ (by omega) (by omega);rw [ea,eb,<-h1']
theorem KqH:D 1=S [49]:=by unfold D;rw [Lib.decDigits];rfl
theorem Kct {a b : Int} (hs : Kt 18 a = false \/ Kt 18 a = true /\ Kt 18 b = false) (ha : nd a < LIM) (hb : nd b < LIM) (hb0 : b ≠ 0) {w : World} (hL : Laid w) :
    Calls Tryz.prog 77 #[I a,I b] w λe w'=>e = .returned (.tuple #[I (a.fdiv b),I (a.fmod b),.int .i64 0])/\Ext w w':=by
  have HL:=hid hL;have hz:(Lib.itoa b==[48])=false:=by rw [KB];exact decide_eq_false hb0
  have l1:=hid (K6 (z:=a) (m:=18) (Nat.le_of_lt ha) (by omega));have l2:=hid (K6 (z:=b) (m:=18) (Nat.le_of_lt hb) (by omega));have s1:=hid (ZG (z:=a) (Nat.le_of_lt ha));have s2:=hid (ZG (z:=b) (Nat.le_of_lt hb));have ha':Lib.nDigits a.natAbs<LIM:=ha;have hb':Lib.nDigits b.natAbs<LIM:=hb;have hdm:=hid (λw hL=>Kcz (w:=w) ha' hb' (by omega) hL);have hfd:=Kon (a:=a) hb0 _ _ rfl rfl;have hrb:a.natAbs%b.natAbs<b.natAbs:=Nat.mod_lt _ (by omega);have nq:Lib.nDigits (a.natAbs/b.natAbs)<LIM:=Nat.lt_of_le_of_lt (Qx (Nat.div_le_self _ _)) ha';have nr:Lib.nDigits (a.natAbs%b.natAbs)<LIM:=Nat.lt_of_le_of_lt (Qx (Nat.le_of_lt hrb)) hb';clear ha hb hb0 ha' hL;generalize a.natAbs/b.natAbs=q at *;generalize a.natAbs%b.natAbs=r at *;have hadd:=hid (λw hL=>KgY (u:=q) (v:=1) (w:=w) nq (by unfold LIM;exact Nat.lt_of_le_of_lt (KP (u:=1) (k:=1) (by omega) (by omega)) (by omega)) hL);rw [KqH] at hadd;have hsub:=hid (λw hL=>KdC (u:=b.natAbs) (v:=r) (w:=w) hb' (Nat.le_of_lt hrb) hL)
  have nq1:Lib.nDigits (q+1)<=LIM:=by
    have:=KaX (q:Int) 1;unfold nd at this;rw [show ((q:Int)+1).natAbs=q+1 by omega] at this;simp only [Int.natAbs_natCast] at this;have h1:Lib.nDigits (Int.natAbs 1)<=1:=KP (u:=1) (k:=1) (by omega) (by omega);have:=Lib.nDigits_pos q;omega
  have nbr:Lib.nDigits (b.natAbs-r)<=LIM:=Nat.le_trans (Qx (Nat.sub_le _ _)) (Nat.le_of_lt hb');have J1:=hid (λc w=>XE c q (Nat.le_of_lt nq) w);have J2:=hid (λc w=>XE c r (Nat.le_of_lt nr) w);have J3:=hid (λc w=>XE c (q+1) nq1 w);have J4:=hid (λc w=>XE c (b.natAbs-r) nbr w);clear hb' hrb nq nr nq1 nbr;generalize b.natAbs-r=d at *;generalize hq1:q+1=q1 at *;clear hq1;generalize b.natAbs=bn at *;have hrz:(Lib.decDigits r==[48])=decide (r=0):=Q9 r;have hE:=Ext.refl w
  rcases hfd with ⟨e0,e1,e2⟩ | ⟨e0,e1,e2,e3⟩ | ⟨e0,e1,e2,e3⟩
  case inl =>
    clear hadd hsub J3 J4 hrz
    rcases XJ a with ⟨ga,ea⟩ | ⟨ga,ea⟩<;>rcases XJ b with ⟨gb,eb⟩ | ⟨gb,eb⟩<;>first | (exfalso;omega) | skip
    all_goals
      rw [ea] at s1;rw [eb] at s2
      first | rw [if_pos gb] at e2 | rw [if_neg (by omega)] at e2
      have E1:=hid e1;have E2:=hid e2;clear ga gb ea eb e0 e1 e2
      rcases hs with h1 | ⟨h1,h2⟩
      all_goals
        rw [h1] at l1
        try rw [h2] at l2
        go_enter Tryz.func77,Tryz.ntmps77
        go_wp2_with (first
          | (go_at_call 115;(first | (refine (l1.out _).mono ?_;clear l1) | refine (l2.out _).mono ?_);rintro e w1 ⟨rfl,hE1⟩;replace hE:=hE.trans hE1;clear hE1)
          | (go_at_call 116;(first | (refine (s1.out _).mono ?_;clear s1) | refine (s2.out _).mono ?_);rintro e w1 ⟨rfl,hE1⟩;replace hE:=hE.trans hE1;clear hE1)
          | (go_at_call 122;refine (hdm.out _ (HL.out.ext hE)).mono ?_;rintro e w1 ⟨rfl,hE1⟩;replace hE:=hE.trans hE1;clear hE1)
          | (go_at_call 117;(first | (refine (J1.out _ _).mono ?_;clear J1) | refine (J2.out _ _).mono ?_);rintro e w1 ⟨rfl,hE1⟩;replace hE:=hE.trans hE1;clear hE1))
        go_ret3
        exact ⟨KN (by rw [E1.out,E2.out];rfl),hE⟩
  case inr.inl =>
    clear hadd hsub J3 J4;rw [decide_eq_true e1] at hrz
    rcases XJ a with ⟨ga,ea⟩ | ⟨ga,ea⟩<;>rcases XJ b with ⟨gb,eb⟩ | ⟨gb,eb⟩<;>first | (exfalso;omega) | skip
    all_goals
      rw [ea] at s1;rw [eb] at s2
      have E1:=hid e2;have E2:=hid e3;have R:=hid e1;clear ga gb ea eb e0 e1 e2 e3
      rcases hs with h1 | ⟨h1,h2⟩
      all_goals
        rw [h1] at l1
        try rw [h2] at l2
        go_enter Tryz.func77,Tryz.ntmps77
        go_wp2_with (first
          | (go_at_call 115;(first | (refine (l1.out _).mono ?_;clear l1) | refine (l2.out _).mono ?_);rintro e w1 ⟨rfl,hE1⟩;replace hE:=hE.trans hE1;clear hE1)
          | (go_at_call 116;(first | (refine (s1.out _).mono ?_;clear s1) | refine (s2.out _).mono ?_);rintro e w1 ⟨rfl,hE1⟩;replace hE:=hE.trans hE1;clear hE1)
          | (go_at_call 122;refine (hdm.out _ (HL.out.ext hE)).mono ?_;rintro e w1 ⟨rfl,hE1⟩;replace hE:=hE.trans hE1;clear hE1)
          | (go_at_call 117;(first | (refine (J1.out _ _).mono ?_;clear J1) | refine (J2.out _ _).mono ?_);rintro e w1 ⟨rfl,hE1⟩;replace hE:=hE.trans hE1;clear hE1))
        go_ret3
        exact ⟨KN (by rw [E1.out,E2.out,R.out];rfl),hE⟩
  case inr.inr =>
    clear J1 J2;rw [decide_eq_false e1] at hrz
    rcases XJ a with ⟨ga,ea⟩ | ⟨ga,ea⟩<;>rcases XJ b with ⟨gb,eb⟩ | ⟨gb,eb⟩<;>first | (exfalso;omega) | skip
    all_goals
      rw [ea] at s1;rw [eb] at s2
      first | rw [if_pos gb] at e3 | rw [if_neg (by omega)] at e3
      have E1:=hid e2;have E2:=hid e3;clear ga gb ea eb e0 e1 e2 e3
      rcases hs with h1 | ⟨h1,h2⟩
      all_goals
        rw [h1] at l1
        try rw [h2] at l2
        go_enter Tryz.func77,Tryz.ntmps77
        go_wp2_with (first
          | (go_at_call 115;(first | (refine (l1.out _).mono ?_;clear l1) | refine (l2.out _).mono ?_);rintro e w1 ⟨rfl,hE1⟩;replace hE:=hE.trans hE1;clear hE1)
          | (go_at_call 116;(first | (refine (s1.out _).mono ?_;clear s1) | refine (s2.out _).mono ?_);rintro e w1 ⟨rfl,hE1⟩;replace hE:=hE.trans hE1;clear hE1)
          | (go_at_call 122;refine (hdm.out _ (HL.out.ext hE)).mono ?_;rintro e w1 ⟨rfl,hE1⟩;replace hE:=hE.trans hE1;clear hE1)
          | (go_at_call 123;refine (hadd.out _ (HL.out.ext hE)).mono ?_;rintro e w1 ⟨rfl,hE1⟩;replace hE:=hE.trans hE1;clear hE1)
          | (go_at_call 124;refine (hsub.out _ (HL.out.ext hE)).mono ?_;rintro e w1 ⟨rfl,hE1⟩;replace hE:=hE.trans hE1;clear hE1)
          | (go_at_call 117;(first | (refine (J3.out _ _).mono ?_;clear J3) | refine (J4.out _ _).mono ?_);rintro e w1 ⟨rfl,hE1⟩;replace hE:=hE.trans hE1;clear hE1))
        go_ret3
        exact ⟨KN (by rw [E1.out,E2.out];rfl),hE⟩
theorem Qf {a b:Int} (ha:nd a<LIM) (hb:nd b<LIM) (hb0:b≠0) {w:World} (hL:Laid w) :
  Calls Tryz.prog 77 #[I a,I b] w λe w'=>e = .returned (.tuple #[I (a.fdiv b),I (a.fmod b),.int .i64 0])/\Ext w w':=by
 cases h1:Kt 18 a
 ·exact Kct (.inl h1) ha hb hb0 hL
 ·cases h2:Kt 18 b
  ·exact Kct (.inr ⟨h1,h2⟩) ha hb hb0 hL
  ·exact KgC h1 h2 (Nat.le_of_lt ha) (Nat.le_of_lt hb) hb0 hL
end
section
open Go Go.Sort
section
variable {P:Program} {ops:Array Oper} {md:Region.Mode} {C:World->Prop}
def KbN (P:Program) (md:Region.Mode) (ops:Array Oper) (C:World->Prop) (n:Nat) (L:Array Bool->Act->Prop):Nat->Array Bool->Act->Prop
 | 0,listed,a=>L listed a
 | f+1,listed,a=>Region.ready md ops listed≠[] /\ ∀i∈Region.ready md ops listed,i<n/\qOp P ops C i (KbN P md ops C n L f (listed.setIfInBounds i true)) a
theorem Kaf {n g:Nat} {L:Array Bool->Act->Prop} {Q':Exit->Act->World->Prop} (hL : ∀listed a w,C w->L listed a->wpAny P md ops Q' g listed a w) :
  ∀(f:Nat) (listed:Array Bool) (a:Act) (w:World),C w->KbN P md ops C n L f listed a->wpAny P md ops Q' (f+g) listed a w
 | 0,listed,a,w,hC,h=>by rw [Nat.zero_add];exact hL _ _ _ hC h
 | f+1,listed,a,w,hC,h=>by
  rw [show f+1+g=(f+g)+1 by omega];exact ⟨λh0=>absurd h0 h.1,λi hi=>wpOp_of_qOp hC (λa' w' hw' h'=>Kaf hL f _ a' w' hw' h') (h.2 i hi).2⟩
theorem Ke2 {n i:Nat} {oi:Oper} {v:Value} {L:Array Bool->Act->Prop} (hi:ops[i]? = some oi) (hsel : ∀(j:Nat) (o:Oper) cs b,ops[j]? = some o->o.op ≠ .select cs b)
  (hs:Region.sinkB md ops n=true) (hc:Region.chainB md ops n=true) (hn:n<ops.size) (hin:i<n)
  (hdone : ∀listed a,L listed a -> ∀j∈Region.ready md ops listed,n<=j) :
  ∀(f:Nat) (listed:Array Bool) (a:Act),HeadInv md ops n listed ->
   (∀j oj,ops[j]? = some oj->j≠i->listed.getD j true=false->(∀e∈oj.after,Region.binds md e=true->e.on≠i)->oi.apart ops oj=true) ->
   i∈Region.ready md ops listed->YieldsIn P ops C oi v a ->
   KbN P md ops C n L f (listed.setIfInBounds i true) (a.put oi.dst v)->KbN P md ops C n L (f+1) listed a:=by
 intro f
 induction f with
 | zero =>
  intro listed a inv _ hr hy H;have hun:=(mem_ready.1 hr).1;refine ⟨λh=>(by rw [h] at hr;cases hr),λj hj => ?_⟩
  have hjn:j<n:=by
   rcases Nat.lt_or_ge j n with h | h
   ·exact h
   ·exact absurd hj (tail_waits hs hc hn inv _ i rfl hin hun j h)
  refine ⟨hjn,?_⟩
  by_cases hji:j=i
  ·subst hji;exact hy.qOp hi H
  ·have:=hdone _ _ H j (ready_mono hj hji);omega
 | succ f ih =>
  intro listed a inv hfree hr hy H;have hun:=(mem_ready.1 hr).1;refine ⟨λh=>(by rw [h] at hr;cases hr),λj hj => ?_⟩
  have hjn:j<n:=by
   rcases Nat.lt_or_ge j n with h | h
   ·exact h
   ·exact absurd hj (tail_waits hs hc hn inv _ i rfl hin hun j h)
  refine ⟨hjn,?_⟩
  by_cases hji:j=i
  ·subst hji;exact hy.qOp hi H
  ·have h1:=(H.2 j (ready_mono hj hji)).2;obtain ⟨hjun,oj,hoj,hall⟩:=mem_ready.1 hj
   have hnot : ∀e∈oj.after,Region.binds md e=true->e.on≠i:=λe he hb heq=>by
    have h1:=hall e he hb;rw [heq,getD_both hun] at h1
    cases h1
   have h2:=qOp_put hoj (hfree j oj hoj hji hjun hnot) (λcs b=>hsel i oi cs b hi) (λcs b=>hsel j oj cs b hoj) hy h1
   have hfree' : ∀k ok,ops[k]? = some ok->k≠i->(listed.setIfInBounds j true).getD k true=false ->
     (∀e∈ok.after,Region.binds md e=true->e.on≠i)->oi.apart ops ok=true:=λk ok hk hki hun hno=>by
    refine hfree k ok hk hki ?_ hno
    by_cases hjk:j=k
    ·subst hjk;exact hjun
    ·rw [getD_set_ne true hjk] at hun;exact hun
   refine qOp_mono (λa' h3=>ih (listed.setIfInBounds j true) a' (inv.set hj hjn) hfree' (ready_mono hr (Ne.symm hji)) h3.1 ?_) h2;rw [Array.setIfInBounds_comm _ _ hji];exact h3.2
theorem KcP {n g:Nat} {Lq:Act->Prop} (hsel:Region.noSelect ops=true) (hs:Region.sinkB md ops n=true) (hc:Region.chainB md ops n=true) (hn:n<ops.size) :
  ∀(l:List Oper) (k:Nat) (listed:Array Bool) (a:Act),(∀j,j<l.length->l[j]? = ops[k+j]?)->k+l.length=n->HeadInv md ops n listed ->
  Region.lexHead md ops g l.length k listed=true->wpQuiet P ops C Lq l a ->
  KbN P md ops C n (λlisted' a'=>Region.seqB md ops g n listed'=true/\Lq a') l.length listed a
 | [],k,listed,a,_,hk,_,hB,h=>by
  have:k=n:=by simpa using hk
  subst this;exact ⟨by simpa [Region.lexHead] using hB,h⟩
 | o::l,k,listed,a,hl,hk,inv,hB,h=>by
  have h0:ops[k]? = some o:=by simpa using (hl 0 (by simp)).symm
  simp only [List.length_cons,Region.lexHead,Bool.and_eq_true] at hB;obtain ⟨⟨hr,hf⟩,hB'⟩:=hB;have hkn:k<n:=by simp only [List.length_cons] at hk;omega
  have hr':k∈Region.ready md ops listed:=by simpa using hr
  have hst:qOp P ops C k (wpQuiet P ops C Lq l) a:=by unfold qOp;simp only [h0];exact h
  obtain ⟨v,hy,hK⟩:=yieldsIn_of_qOp h0 hst
  exact Ke2 h0 (Region.noSelect_spec hsel) hs hc hn hkn (λlisted' a' hL=>seqB_ready hL.1) l.length listed a inv (Region.free_spec h0 hf) hr' hy
   (KcP hsel hs hc hn l (k+1) _ _ (λj hj=>by have:=hl (j+1) (by simp;omega);simpa [Nat.add_assoc,Nat.add_comm 1 j] using this) (by simp only [List.length_cons] at hk;omega) (inv.set hr' hkn) hB' hK)
theorem Km {id:Nat} {Q:Exit->Act->World->Prop} {a:Act} {w:World} {l:List Oper} (n:Nat) (hm:P.follows .mixedOrders=true) (hB:Region.lexTailB .any l.toArray n=true)
  (h:wpQuiet P l.toArray (λw' => ∃p:Regrown,w'=grow (redrawn w p.d) p.os) (λa' => ∀w',(∃p:Regrown,w'=grow (redrawn w p.d) p.os)->wpList P l.toArray Q (l.drop n) a' w') (l.take n) a):(Code.region id l.toArray true).wp P Q a w:=by
 simp only [Region.lexTailB,Bool.and_eq_true,decide_eq_true_eq] at hB;obtain ⟨⟨⟨⟨hsel,hn⟩,hs⟩,hc⟩,hlex⟩:=hB;have hn':n<l.length:=by simpa using hn
 have htl:(l.take n).length=n:=by simp;omega
 have hdl:(l.drop n).length=l.toArray.size-n:=by simp
 have inv0:HeadInv .any l.toArray n (Array.replicate l.toArray.size false) :=
  ⟨by simp,λj oj _ hl=>(by rw [getD_replicate_false] at hl;cases hl),λt _ ht=>getD_in (by simpa using ht) (getD_replicate_false _ _)⟩
 have H:=KcP (md := .any) (g:=l.toArray.size-n) hsel hs hc hn (l.take n) 0 _ a (λj hj=>by
  have hj':j<n:=by rw [htl] at hj;exact hj
  simp [hj']) (by simpa using htl) inv0 (by rw [htl];exact hlex) h
 refine wp_region_any hm ?_
 have:=Kaf (Q':=Q) (g:=l.toArray.size-n) (λlisted a' w' hC hL=>by
  have:=wpAny_of_seq (md := .any) (Q':=Q) (l.drop n) n listed a' w' (λj=>by simp [List.getElem?_drop]) (by rw [hdl];exact hL.1) (hL.2 w' hC)
  rwa [hdl] at this) _ _ _ _ (show ∃p:Regrown,({ w with drawn:=w.drawn+1 }:World)=grow (redrawn w p.d) p.os from ⟨⟨w.drawn+1,#[]⟩,by rw [grow_empty];rfl⟩) H
 rw [htl,show n+(l.toArray.size-n)=l.toArray.size by omega] at this;exact this
end
end
section
def QR (k:Int):List Int->List Int->List Int
 | a,[]=>a
 | [],_::_=>[]
 | x::a,y::b=>(x-k*y)::QR k a b
@[simp] theorem KV (k:Int) : ∀a b:List Int,(QR k a b).length=a.length
 | a,[]=>by cases a<;>rfl
 | [],_::_=>rfl
 | x::a,y::b=>by simp [QR,KV k a b]
theorem XH (k:Int) (a:List Int):QR k a []=a:=by cases a<;>rfl
theorem Kev (k:Int) : ∀(a b:List Int) (i:Nat) (h:i<a.length) (_:b.length<=i),(QR k a b)[i]'(by simpa using h)=a[i]
 | a,[],i,h,_=>by simp only [XH]
 | [],_::_,i,h,_=>by cases h
 | x::a,y::b,0,h,hb=>by simp at hb
 | x::a,y::b,i+1,h,hb=>by
  simp only [QR,List.getElem_cons_succ];exact Kev k a b i (by simpa using h) (by simpa using hb)
theorem Kci (k:Int) : ∀(a b:List Int) (i:Nat) (hb:i<b.length) (h:i<a.length),QR k a (b.take (i+1))=(QR k a (b.take i)).set i (a[i]-k*b[i])
 | a,[],i,hb,h=>by cases hb
 | [],_::_,i,hb,h=>by cases h
 | x::a,y::b,0,hb,h=>by simp [QR,XH]
 | x::a,y::b,i+1,hb,h=>by
  simp only [List.take_succ_cons,QR,List.set_cons_succ,List.getElem_cons_succ];rw [Kci k a b i (by simpa using hb) (by simpa using h)]
theorem Kcj : ∀(a b:List Int),b.length<=a.length->QR 0 a b=a
 | a,[],_=>XH 0 a
 | [],_::_,h=>by simp at h
 | x::a,y::b,h=>by simp only [QR,Int.zero_mul,Int.sub_zero];rw [Kcj a b (by simpa using h)]
theorem Z7 (k:Int) : ∀(a b:List Int) (c:Nat),b.length<=a.length->(QR k a b).getD c 0=a.getD c 0-k*b.getD c 0
 | a,[],c,_=>by simp [XH]
 | [],_::_,_,h=>by simp at h
 | x::a,y::b,0,_=>by simp [QR]
 | x::a,y::b,c+1,h=>by
  simp only [QR,List.getD_cons_succ];exact Z7 k a b c (by simpa using h)
abbrev Ln:=List Int×List Int
def lsub (k:Int) (a b:Ln):Ln:=(QR k a.1 b.1,QR k a.2 b.2)
def lneg (a:Ln):Ln:=(a.1.map (λz => -z),a.2.map (λz => -z))
end
end Go.Proofs.YtdmaofimeknkbaaGreatDoor
