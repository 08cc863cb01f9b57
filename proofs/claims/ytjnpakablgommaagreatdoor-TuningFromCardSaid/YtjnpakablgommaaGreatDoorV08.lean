/- Part 8 of the proof of the claim: contracts of the functions that it reaches, and plain laws; no condition. -/
import Derived.Test.YtjnpakablgommaaGreatDoorV07
import Derived.Test.YtjnpakablgommaaGreatDoorV03
set_option maxRecDepth 100000
namespace Go.Proofs.YtjnpakablgommaaGreatDoor
open Go.RowKit Go.Sort
def fits (m:Nat) (z:Int):Bool:=decide ((Lib.itoa z).length≤m)
theorem little_any {z:Int} {m:Nat} (hn:nd z≤LIM) (hm:m≤18) (w:World) :
  Calls Tryz.prog 198 #[I z,.int .i64 m] w fun e w'=>e = .returned (.tuple #[.int .i64 (if fits m z then z else 0),.bool (fits m z)])∧Ext w w':=by
 by_cases h:(Lib.itoa z).length≤m
 ·have e:fits m z=true:=decide_eq_true h
  rw [e]; exact little_yes h hm w
 ·have e:fits m z=false:=decide_eq_false h
  rw [e]; exact little_no hn (by omega) hm w
theorem fits_lt {m:Nat} {z:Int} (h:fits m z=true):z.natAbs<10^m:=by
 refine lt_pow_of_nd (k:=m) ?_
 have:=of_decide_eq_true h
 rw [itoa_length] at this; unfold nd at this; omega
theorem split_any {z:Int} (hl:nd z≤LIM) (w:World):Calls Tryz.prog 199 #[I z] w fun e w'=>e = .returned (.tuple #[.bool (decide (z<0)),D z.natAbs])∧Ext w w':=by
 by_cases hz:z<0
 ·rw [decide_eq_true hz]; exact split_neg hz hl w
 ·rw [decide_eq_false hz]; exact split_pos (by omega) w
theorem neg_or (z:Int):(z<0∧decide (z<0)=true)∨(0≤z∧decide (z<0)=false):=by
 by_cases h:z<0
 ·exact .inl ⟨h,decide_eq_true h⟩
 ·exact .inr ⟨by omega,decide_eq_false h⟩
theorem Add_fast {a b:Int} (h1:fits 18 a=true) (h2:fits 18 b=true) (ha:nd a≤LIM) (hb:nd b≤LIM) {w:World} (hL:Laid w) :
  Calls Tryz.prog 135 #[I a,I b] w fun e w'=>e = .returned (I (a+b))∧Ext w w':=by
 have HL:=Lib.hid hL
 have b1:=fits_lt h1
 have b2:=fits_lt h2
 have l1:=Lib.hid (little_any (z:=a) (m:=18) ha (by omega))
 have l2:=Lib.hid (little_any (z:=b) (m:=18) hb (by omega))
 rw [h1] at l1; rw [h2] at l2
 have hof:=Lib.hid (fun w hL=>wholeOf_any (n:=a+b) (w:=w) (by omega) (by omega) hL)
 have hwr:IntKind.i64.wrap (a+b)=a+b:=by rw [IntKind.wrap_i64]; omega
 clear b1 b2 h1 h2 ha hb hL
 go_enter Tryz.func135,Tryz.ntmps135
 go_wp2_with fail
 refine (l1.out _).mono ?_
 rintro e w1 ⟨rfl,hE1⟩
 go_wp2_with fail
 refine (l2.out _).mono ?_
 rintro e w2 ⟨rfl,hE2⟩
 go_wp2_with fail
 refine (hof.out _ (HL.out.ext (hE1.trans hE2))).mono ?_
 rintro e w3 ⟨rfl,hE3⟩
 go_wp2_with fail
 go_ret
 exact ⟨rfl,(hE1.trans hE2).trans hE3⟩
set_option maxHeartbeats 2000000 in
theorem Add_slow {a b : Int} (hs : fits 18 a = false ∨ fits 18 a = true ∧ fits 18 b = false) (ha : nd a < LIM) (hb : nd b < LIM) {w : World} (hL : Laid w) :
    Calls Tryz.prog 135 #[I a,I b] w fun e w'=>e = .returned (I (a+b))∧Ext w w':=by
  have HL:=Lib.hid hL
  have l1:=Lib.hid (little_any (z:=a) (m:=18) (Nat.le_of_lt ha) (by omega))
  have l2:=Lib.hid (little_any (z:=b) (m:=18) (Nat.le_of_lt hb) (by omega))
  have s1:=Lib.hid (split_any (z:=a) (Nat.le_of_lt ha))
  have s2:=Lib.hid (split_any (z:=b) (Nat.le_of_lt hb))
  have ha':Lib.nDigits a.natAbs<LIM:=ha
  have hb':Lib.nDigits b.natAbs<LIM:=hb
  have hadd:=Lib.hid (fun w hL=>dAdd_any (w:=w) ha' hb' hL)
  have hcm:=Lib.hid (dCompare_any (u:=a.natAbs) (v:=b.natAbs) (Nat.le_of_lt ha) (Nat.le_of_lt hb))
  have hj:Lib.nDigits (a.natAbs+b.natAbs)≤LIM:=by
    have:=nd_add (a.natAbs:Int) (b.natAbs:Int)
    unfold nd at this
    rw [show ((a.natAbs:Int)+(b.natAbs:Int)).natAbs=a.natAbs+b.natAbs by omega] at this
    simp only [Int.natAbs_natCast] at this
    omega
  have hj1:Lib.nDigits (a.natAbs-b.natAbs)≤LIM:=Nat.le_trans (nDigits_mono (Nat.sub_le _ _)) (Nat.le_of_lt ha')
  have hj2:Lib.nDigits (b.natAbs-a.natAbs)≤LIM:=Nat.le_trans (nDigits_mono (Nat.sub_le _ _)) (Nat.le_of_lt hb')
  have J:=Lib.hid (fun c w=>join_any c _ hj w)
  have J1:=Lib.hid (fun c w=>join_any c _ hj1 w)
  have J2:=Lib.hid (fun c w=>join_any c _ hj2 w)
  have sub1:Hid (b.natAbs≤a.natAbs → ∀ w (_:Laid w),Calls Tryz.prog 202 #[D a.natAbs,D b.natAbs] w fun e w'=>e = .returned (.tuple #[D (a.natAbs-b.natAbs),.int .i64 0])∧Ext w w'):=Lib.hid (fun h w hL=>dSub_any (w:=w) ha' h hL)
  have sub2:Hid (a.natAbs≤b.natAbs → ∀ w (_:Laid w),Calls Tryz.prog 202 #[D b.natAbs,D a.natAbs] w fun e w'=>e = .returned (.tuple #[D (b.natAbs-a.natAbs),.int .i64 0])∧Ext w w'):=Lib.hid (fun h w hL=>dSub_any (w:=w) hb' h hL)
  clear ha hb hL ha' hb' hj hj1 hj2
  have dv : (a.natAbs < b.natAbs ∧ cmpN a.natAbs b.natAbs = -1 ∧ Hid (∀ w (_ : Laid w), Calls Tryz.prog 202 #[D b.natAbs, D a.natAbs] w fun e w' => e = .returned (.tuple #[D (b.natAbs - a.natAbs), .int .i64 0]) ∧ Ext w w') ∧ Hid (∀ c w, Calls Tryz.prog 200 #[.bool c, D (b.natAbs - a.natAbs)] w fun e w' => e = .returned (I (if c then -((b.natAbs - a.natAbs : Nat) : Int) else (b.natAbs - a.natAbs : Nat))) ∧ Ext w w'))
      ∨ (b.natAbs≤a.natAbs∧0≤cmpN a.natAbs b.natAbs∧Hid (∀ w (_:Laid w),Calls Tryz.prog 202 #[D a.natAbs,D b.natAbs] w fun e w'=>e = .returned (.tuple #[D (a.natAbs-b.natAbs),.int .i64 0])∧Ext w w')∧Hid (∀ c w,Calls Tryz.prog 200 #[.bool c,D (a.natAbs-b.natAbs)] w fun e w'=>e = .returned (I (if c then -((a.natAbs-b.natAbs:Nat):Int) else (a.natAbs-b.natAbs:Nat)))∧Ext w w')):=by
    unfold cmpN
    by_cases h:a.natAbs<b.natAbs
    · exact .inl ⟨h,by rw [if_pos h],Lib.hid (sub2.out (Nat.le_of_lt h)),J2⟩
    · exact .inr ⟨by omega,by rw [if_neg h]; split <;> omega,Lib.hid (sub1.out (by omega)),J1⟩
  clear sub1 sub2 J1 J2
  generalize cmpN a.natAbs b.natAbs=cc at *
  have hE:=Ext.refl w
  rcases neg_or a with ⟨ga,ea⟩ | ⟨ga,ea⟩ <;> rcases neg_or b with ⟨gb,eb⟩ | ⟨gb,eb⟩ <;> rw [ea] at s1 <;> rw [eb] at s2
  case inl.inl =>
    have R:=Lib.hid (show -((a.natAbs:Int)+(b.natAbs:Int))=a+b by omega)
    clear dv ga gb ea eb hcm
    rcases hs with h1 | ⟨h1,h2⟩
    all_goals
      rw [h1] at l1
      try rw [h2] at l2
      go_enter Tryz.func135,Tryz.ntmps135
      go_wp2_with (first
        | (go_at_call 198; (first | (refine (l1.out _).mono ?_; clear l1) | refine (l2.out _).mono ?_); rintro e w1 ⟨rfl,hE1⟩; replace hE:=hE.trans hE1; clear hE1)
        | (go_at_call 199; (first | (refine (s1.out _).mono ?_; clear s1) | refine (s2.out _).mono ?_); rintro e w1 ⟨rfl,hE1⟩; replace hE:=hE.trans hE1; clear hE1)
        | (go_at_call 201; refine (hadd.out _ (HL.out.ext hE)).mono ?_; rintro e w1 ⟨rfl,hE1⟩; replace hE:=hE.trans hE1; clear hE1)
        | (go_at_call 200; refine (J.out _ _).mono ?_; rintro e w1 ⟨rfl,hE1⟩; replace hE:=hE.trans hE1; clear hE1))
      go_ret
      exact ⟨ret_val (congrArg I R.out),hE⟩
  case inr.inr =>
    have R:=Lib.hid (show (a.natAbs:Int)+(b.natAbs:Int)=a+b by omega)
    clear dv ga gb ea eb hcm
    rcases hs with h1 | ⟨h1,h2⟩
    all_goals
      rw [h1] at l1
      try rw [h2] at l2
      go_enter Tryz.func135,Tryz.ntmps135
      go_wp2_with (first
        | (go_at_call 198; (first | (refine (l1.out _).mono ?_; clear l1) | refine (l2.out _).mono ?_); rintro e w1 ⟨rfl,hE1⟩; replace hE:=hE.trans hE1; clear hE1)
        | (go_at_call 199; (first | (refine (s1.out _).mono ?_; clear s1) | refine (s2.out _).mono ?_); rintro e w1 ⟨rfl,hE1⟩; replace hE:=hE.trans hE1; clear hE1)
        | (go_at_call 201; refine (hadd.out _ (HL.out.ext hE)).mono ?_; rintro e w1 ⟨rfl,hE1⟩; replace hE:=hE.trans hE1; clear hE1)
        | (go_at_call 200; refine (J.out _ _).mono ?_; rintro e w1 ⟨rfl,hE1⟩; replace hE:=hE.trans hE1; clear hE1))
      go_ret
      exact ⟨ret_val (congrArg I R.out),hE⟩
  all_goals
    clear J hadd
    rcases dv with ⟨dl,dc,Sb,Jb⟩ | ⟨dl,dc,Sb,Jb⟩
    all_goals
      first
        | have R:=Lib.hid (show -((a.natAbs-b.natAbs:Nat):Int)=a+b by omega)
        | have R:=Lib.hid (show ((a.natAbs-b.natAbs:Nat):Int)=a+b by omega)
        | have R:=Lib.hid (show -((b.natAbs-a.natAbs:Nat):Int)=a+b by omega)
        | have R:=Lib.hid (show ((b.natAbs-a.natAbs:Nat):Int)=a+b by omega)
      try rw [dc] at hcm
      clear ga gb ea eb dl
      rcases hs with h1 | ⟨h1,h2⟩
      all_goals
        rw [h1] at l1
        try rw [h2] at l2
        go_enter Tryz.func135,Tryz.ntmps135
        go_wp2_with (first
          | (go_at_call 198; (first | (refine (l1.out _).mono ?_; clear l1) | refine (l2.out _).mono ?_); rintro e w1 ⟨rfl,hE1⟩; replace hE:=hE.trans hE1; clear hE1)
          | (go_at_call 199; (first | (refine (s1.out _).mono ?_; clear s1) | refine (s2.out _).mono ?_); rintro e w1 ⟨rfl,hE1⟩; replace hE:=hE.trans hE1; clear hE1)
          | (go_at_call 125; refine (hcm.out _).mono ?_; rintro e w1 ⟨rfl,hE1⟩; replace hE:=hE.trans hE1; clear hE1)
          | (go_at_call 202; refine (Sb.out _ (HL.out.ext hE)).mono ?_; rintro e w1 ⟨rfl,hE1⟩; replace hE:=hE.trans hE1; clear hE1)
          | (go_at_call 200; refine (Jb.out _ _).mono ?_; rintro e w1 ⟨rfl,hE1⟩; replace hE:=hE.trans hE1; clear hE1))
        go_ret
        exact ⟨ret_val (congrArg I R.out),hE⟩
theorem Add_any {a b:Int} (ha:nd a<LIM) (hb:nd b<LIM) {w:World} (hL:Laid w) :
  Calls Tryz.prog 135 #[I a,I b] w fun e w'=>e = .returned (I (a+b))∧Ext w w':=by
 cases h1:fits 18 a
 ·exact Add_slow (.inl h1) ha hb hL
 ·cases h2:fits 18 b
  ·exact Add_slow (.inr ⟨h1,h2⟩) ha hb hL
  ·exact Add_fast h1 h2 (Nat.le_of_lt ha) (Nat.le_of_lt hb) hL
theorem Sub_any {a b:Int} (ha:nd a<LIM) (hb:nd b<LIM) {w:World} (hL:Laid w) :
  Calls Tryz.prog 172 #[I a,I b] w fun e w'=>e = .returned (I (a-b))∧Ext w w':=by
 have HL:=Lib.hid hL
 have H1:=Lib.hid (Neg_any (z:=b) (Nat.le_of_lt hb))
 have H2:=Lib.hid (fun w hL=>Add_any (a:=a) (b := -b) (w:=w) ha (by rw [nd_neg]; exact hb) hL)
 have R:=Lib.hid (show a + -b=a-b by omega)
 clear ha hb hL
 go_enter Tryz.func172,Tryz.ntmps172
 go_wp2_with fail
 refine (H1.out _).mono ?_
 rintro e w1 ⟨rfl,hE1⟩
 go_wp2_with fail
 refine (H2.out _ (HL.out.ext hE1)).mono ?_
 rintro e w2 ⟨rfl,hE2⟩
 go_wp2_with fail
 go_ret
 exact ⟨ret_val (congrArg I R.out),hE1.trans hE2⟩
end Go.Proofs.YtjnpakablgommaaGreatDoor
namespace Go.Proofs.YtjnpakablgommaaGreatDoor
open Go.RowKit
set_option maxHeartbeats 1000000 in
theorem canon_any {u:Nat} (hu:Lib.nDigits u≤LIM) (w:World) :
  Calls Tryz.prog 263 #[D u] w fun e w'=>e = .returned (.bool true)∧Ext w w':=by
 have hcv:=fun (w:World) (s:ByteArray)=>Lib.run_convert_string_bytes (P:=Tryz.prog) w 79 227 5 s Tryz.underlying79 Tryz.underlying227 Tryz.underlying5
 have hn:(Lib.decDigits u).length≤1000000000000:=by rw [Lib.decDigits_length]; exact hu
 obtain ⟨c,l,e,hd,hz⟩:=dec_head u
 have hdd : ∀ x∈(c::l),isDig x:=e ▸ dec_dig u
 have hdj:l=[]∨((c.toNat:Int) != 48)=true:=by
  by_cases h:u=0
  ·subst h; rw [dec_zero] at e; injection e with _ e; exact .inl e.symm
  ·exact .inr (by have:=hz h; simp [bne]; omega)
 unfold D
 rw [e] at hn ⊢
 have Hdd:=Lib.hid hdd
 have Hdj:=Lib.hid hdj
 clear e hz hu hd hdd hdj
 go_enter Tryz.func263,Tryz.ntmps263
 go_wp2
 have hcl:=fun j (hj:j<(c::l).length)=>Lib.bytesWorld_cell w 5 (⟨(c::l).toArray⟩:ByteArray) j (by simpa [ByteArray.size] using hj)
 have hEW:=ext_bytesWorld w 5 (⟨(c::l).toArray⟩:ByteArray)
 have h2:(((⟨(c::l).toArray⟩:ByteArray)[0]'(by show 0<(c::l).toArray.size; simp)).toNat:Int)=c.toNat:=rfl
 have H2:=Lib.hid h2
 have Hcl:=Lib.hid hcl
 clear hcl h2
 go_loop [8] (fun i => ∃ j:Nat,j≤(c::l).length∧i = .int .i64 j) (fun i=>(c::l).length-(intOf i).toNat)
 case atStart=>exact ⟨0,Nat.zero_le _,rfl⟩
 case round =>
  obtain ⟨j,hj,rfl⟩:=hrel
  by_cases hlt:j<(c::l).length
  ·have hcell:=Hcl.out j hlt
   have hdj:=Hdd.out _ (List.getElem_mem hlt)
   rw [show (⟨(c::l).toArray⟩:ByteArray).data.toList=c::l from rfl,List.getD_eq_getElem?_getD,List.getElem?_eq_getElem hlt,Option.getD_some] at hcell
   generalize (c::l)[j]=x at *
   have hb1 : ¬ (x.toNat:Int)<48:=by have:=hdj.1; omega
   have hb2 : ¬ (57:Int)<(x.toNat:Int):=by have:=hdj.2; omega
   clear hdj
   have hlI:(j:Int)<(l.length:Int)+1:=by simp at hlt; omega
   have Hlt:=Lib.hid hlt
   clear hlt
   go_wp2
   go_round
   case rel=>exact ⟨j+1,Hlt.out,by go_num⟩
   case measure=>have:=Hlt.out; simp [intOf]; omega
  ·have hjM:j=l.length+1:=by simp at hj hlt; omega
   subst hjM
   clear hlt hj
   have h2:=H2.out
   rcases Hdj.out with hl | h48
   ·subst hl
    go_wp2
    go_ret
    exact ⟨rfl,hEW⟩
   ·by_cases hl:l=[]
    ·subst hl
     go_wp2
     go_ret
     exact ⟨rfl,hEW⟩
    ·have hl0:0<l.length:=List.length_pos_iff.2 hl
     have hl1:((l.length:Int)+1==1)=false:=beq_eq_false_iff_ne.2 (by omega)
     have hl2:(1:Int)<(l.length:Int)+1:=by omega
     go_wp2
     go_ret
     exact ⟨rfl,hEW⟩
theorem dcheck_any {u:Nat} (hu:Lib.nDigits u≤400) (w:World) :
  Calls Tryz.prog 212 #[D u] w fun e w'=>e = .returned (.int .i64 0)∧Ext w w':=by
 have hc:=Lib.hid (canon_any (u:=u) (by unfold LIM; omega) w)
 have hn:(Lib.decDigits u).length≤400:=by rw [Lib.decDigits_length]; exact hu
 clear hu
 unfold D at hc ⊢
 generalize Lib.decDigits u=l at *
 have hI : ¬ (400:Int)<(l.length:Int):=by omega
 go_enter Tryz.func212,Tryz.ntmps212
 go_wp2_with fail
 refine hc.out.mono ?_
 rintro e w1 ⟨rfl,hE1⟩
 go_wp2_with fail
 go_ret
 exact ⟨rfl,hE1⟩
theorem wcheck_any {z:Int} (hz:nd z≤400) (w:World) :
  Calls Tryz.prog 147 #[I z] w fun e w'=>e = .returned (.int .i64 0)∧Ext w w':=by
 have hs:=Lib.hid (split_any (z:=z) (by unfold LIM; omega) w)
 have hd:=Lib.hid (fun W=>dcheck_any (u:=z.natAbs) hz W)
 by_cases hn:z<0
 ·have h0:(Lib.decDigits z.natAbs==[48])=false:=by rw [dec_eq_zero]; exact decide_eq_false (by omega)
  rw [decide_eq_true hn] at hs
  unfold D at hs hd
  generalize Lib.decDigits z.natAbs=l at *
  clear hn hz
  go_enter Tryz.func147,Tryz.ntmps147
  go_wp2_with fail
  refine hs.out.mono ?_
  rintro e w1 ⟨rfl,hE1⟩
  go_wp2_with fail
  refine (hd.out _).mono ?_
  rintro e w2 ⟨rfl,hE2⟩
  go_wp2_with fail
  go_ret
  exact ⟨rfl,hE1.trans hE2⟩
 ·rw [decide_eq_false hn] at hs
  unfold D at hs hd
  generalize Lib.decDigits z.natAbs=l at *
  clear hn hz
  go_enter Tryz.func147,Tryz.ntmps147
  go_wp2_with fail
  refine hs.out.mono ?_
  rintro e w1 ⟨rfl,hE1⟩
  go_wp2_with fail
  refine (hd.out _).mono ?_
  rintro e w2 ⟨rfl,hE2⟩
  go_wp2_with fail
  go_ret
  exact ⟨rfl,hE1.trans hE2⟩
end Go.Proofs.YtjnpakablgommaaGreatDoor
namespace Go.Proofs.YtjnpakablgommaaGreatDoor
open Go.RowKit Go.Sort
theorem Mul_fast {a b : Int} (h1 : fits 9 a = true) (h2 : fits 9 b = true) (ha : nd a ≤ LIM) (hb : nd b ≤ LIM) {w : World} (hL : Laid w) :
    Calls Tryz.prog 136 #[I a,I b] w fun e w'=>e = .returned (I (a*b))∧Ext w w':=by
  have HL:=Lib.hid hL
  have b1:=fits_lt h1
  have b2:=fits_lt h2
  have hab:(a*b).natAbs<10^18:=by
    rw [Int.natAbs_mul]
    have h:=Nat.mul_lt_mul'' b1 b2
    have e:(10:Nat)^9*10^9=10^18:=by rw [← Nat.pow_add]
    rw [e] at h
    exact h
  have l1:=Lib.hid (little_any (z:=a) (m:=9) ha (by omega))
  have l2:=Lib.hid (little_any (z:=b) (m:=9) hb (by omega))
  rw [h1] at l1; rw [h2] at l2
  obtain ⟨z,hz⟩ : ∃ z,z=a*b:=⟨_,rfl⟩
  have habz:a*b=z:=hz.symm
  rw [habz] at hab ⊢
  have hof:=Lib.hid (fun w hL=>wholeOf_any (n:=z) (w:=w) (by omega) (by omega) hL)
  have hwr:IntKind.i64.wrap z=z:=by rw [IntKind.wrap_i64]; omega
  clear b1 b2 h1 h2 ha hb hL hab hz
  have hE:=Ext.refl w
  go_enter Tryz.func136,Tryz.ntmps136
  go_wp2_with (first
    | (go_at_call 198; (first | (refine (l1.out _).mono ?_; clear l1) | refine (l2.out _).mono ?_); rintro e w1 ⟨rfl,hE1⟩; replace hE:=hE.trans hE1; clear hE1)
    | (go_at_call 137; refine (hof.out _ (HL.out.ext hE)).mono ?_; rintro e w1 ⟨rfl,hE1⟩; replace hE:=hE.trans hE1; clear hE1))
  go_ret
  exact ⟨rfl,hE⟩
set_option maxHeartbeats 2000000 in
theorem Mul_slow {a b : Int} (hs : fits 9 a = false ∨ fits 9 a = true ∧ fits 9 b = false) (hab : nd a + nd b ≤ LIM) {w : World} (hL : Laid w) :
    Calls Tryz.prog 136 #[I a,I b] w fun e w'=>e = .returned (I (a*b))∧Ext w w':=by
  have HL:=Lib.hid hL
  have l1:=Lib.hid (little_any (z:=a) (m:=9) (by omega) (by omega))
  have l2:=Lib.hid (little_any (z:=b) (m:=9) (by omega) (by omega))
  have s1:=Lib.hid (split_any (z:=a) (by omega))
  have s2:=Lib.hid (split_any (z:=b) (by omega))
  have hmul:=Lib.hid (fun w hL=>dMul_any (u:=a.natAbs) (v:=b.natAbs) (w:=w) hab hL)
  have hj:Lib.nDigits (a.natAbs*b.natAbs)≤LIM:=by
    have:=nd_mul (a.natAbs:Int) (b.natAbs:Int)
    unfold nd at this hab
    rw [show ((a.natAbs:Int)*(b.natAbs:Int)).natAbs=a.natAbs*b.natAbs by rw [Int.natAbs_mul]; rfl] at this
    simp only [Int.natAbs_natCast] at this
    omega
  have J:=Lib.hid (fun c w=>join_any c _ hj w)
  have hval:((a.natAbs*b.natAbs:Nat):Int)=a.natAbs*b.natAbs:=Int.natCast_mul _ _
  have R:Hid (∀ c:Bool,c=(decide (a<0) != decide (b<0))→(if c then -((a.natAbs*b.natAbs:Nat):Int) else ((a.natAbs*b.natAbs:Nat):Int))=a*b):=by
    refine Lib.hid fun c hc => ?_
    subst hc
    rw [hval]
    rcases neg_or a with ⟨ga,ea⟩ | ⟨ga,ea⟩ <;> rcases neg_or b with ⟨gb,eb⟩ | ⟨gb,eb⟩ <;> rw [ea,eb]
    · rw [Int.ofNat_natAbs_of_nonpos (by omega),Int.ofNat_natAbs_of_nonpos (by omega)]; simp [Int.neg_mul_neg]
    · rw [Int.ofNat_natAbs_of_nonpos (by omega),Int.natAbs_of_nonneg gb]; simp [Int.neg_mul]
    · rw [Int.ofNat_natAbs_of_nonpos (a:=b) (by omega),Int.natAbs_of_nonneg ga]; simp [Int.mul_neg]
    · rw [Int.natAbs_of_nonneg gb,Int.natAbs_of_nonneg ga]; simp
  clear hab hL hj hval
  generalize a.natAbs*b.natAbs=m at *
  generalize a*b=z at *
  have hE:=Ext.refl w
  rcases neg_or a with ⟨ga,ea⟩ | ⟨ga,ea⟩ <;> rcases neg_or b with ⟨gb,eb⟩ | ⟨gb,eb⟩ <;> rw [ea] at s1 R <;> rw [eb] at s2 R
  all_goals
    first
      | have R:=Lib.hid (R.out true rfl)
      | have R:=Lib.hid (R.out false rfl)
    clear ga gb ea eb
    rcases hs with h1 | ⟨h1,h2⟩
    all_goals
      rw [h1] at l1
      try rw [h2] at l2
      go_enter Tryz.func136,Tryz.ntmps136
      go_wp2_with (first
        | (go_at_call 198; (first | (refine (l1.out _).mono ?_; clear l1) | refine (l2.out _).mono ?_); rintro e w1 ⟨rfl,hE1⟩; replace hE:=hE.trans hE1; clear hE1)
        | (go_at_call 199; (first | (refine (s1.out _).mono ?_; clear s1) | refine (s2.out _).mono ?_); rintro e w1 ⟨rfl,hE1⟩; replace hE:=hE.trans hE1; clear hE1)
        | (go_at_call 181; refine (hmul.out _ (HL.out.ext hE)).mono ?_; rintro e w1 ⟨rfl,hE1⟩; replace hE:=hE.trans hE1; clear hE1)
        | (go_at_call 200; refine (J.out _ _).mono ?_; rintro e w1 ⟨rfl,hE1⟩; replace hE:=hE.trans hE1; clear hE1))
      go_ret
      exact ⟨ret_val (congrArg I R.out),hE⟩
theorem Mul_any {a b:Int} (hab:nd a+nd b≤LIM) {w:World} (hL:Laid w) :
  Calls Tryz.prog 136 #[I a,I b] w fun e w'=>e = .returned (I (a*b))∧Ext w w':=by
 cases h1:fits 9 a
 ·exact Mul_slow (.inl h1) hab hL
 ·cases h2:fits 9 b
  ·exact Mul_slow (.inr ⟨h1,h2⟩) hab hL
  ·exact Mul_fast h1 h2 (by omega) (by omega) hL
def cmpZ (a b:Int):Int:=if a<b then -1 else if b<a then 1 else 0
set_option maxHeartbeats 2000000 in
theorem Compare_any {a b : Int} (ha : nd a ≤ LIM) (hb : nd b ≤ LIM) (w : World) :
    Calls Tryz.prog 177 #[I a,I b] w fun e w'=>e = .returned (.int .i64 (cmpZ a b))∧Ext w w':=by
  have g1:=Lib.hid (Sign_any a)
  have g2:=Lib.hid (Sign_any b)
  have s1:=Lib.hid (split_any (z:=a) ha)
  have s2:=Lib.hid (split_any (z:=b) hb)
  have c1:=Lib.hid (dCompare_any (u:=a.natAbs) (v:=b.natAbs) ha hb)
  have c2:=Lib.hid (dCompare_any (u:=b.natAbs) (v:=a.natAbs) hb ha)
  clear ha hb
  have hE:=Ext.refl w
  have sg : ∀ z:Int,(z<0∧z.sign = -1)∨(z=0∧z.sign=0)∨(0<z∧z.sign=1):=fun z=>by
    rcases Int.lt_trichotomy z 0 with h | h | h
    · exact .inl ⟨h,Int.sign_eq_neg_one_of_neg h⟩
    · exact .inr (.inl ⟨h,by subst h; rfl⟩)
    · exact .inr (.inr ⟨h,Int.sign_eq_one_of_pos h⟩)
  rcases sg a with ⟨ga,ea⟩ | ⟨ga,ea⟩ | ⟨ga,ea⟩ <;> rcases sg b with ⟨gb,eb⟩ | ⟨gb,eb⟩ | ⟨gb,eb⟩ <;> rw [ea] at g1 <;> rw [eb] at g2
  all_goals
    first
      | (have R : cmpZ a b = -1 := by (unfold cmpZ; rw [if_pos (by omega)])
         rw [R])
      | (have R : cmpZ a b = 1 := by (unfold cmpZ; rw [if_neg (by omega), if_pos (by omega)])
         rw [R])
      | (have R : cmpN a.natAbs b.natAbs = cmpZ a b := by
          unfold cmpZ cmpN
          (repeat' split) <;> omega
         rw [R] at c1
         clear c2)
      | (have R : cmpN b.natAbs a.natAbs = cmpZ a b := by
          unfold cmpZ cmpN
          (repeat' split) <;> omega
         rw [R] at c2
         clear c1)
    try rw [decide_eq_true ga] at s1
    try rw [decide_eq_false (p:=a<0) (by omega)] at s1
    clear ga gb ea eb R sg
    generalize cmpZ a b=cc at *
    go_enter Tryz.func177,Tryz.ntmps177
    go_wp2_with (first
        | (go_at_call 103; (first | (refine (g1.out _).mono ?_; clear g1) | refine (g2.out _).mono ?_); rintro e w1 ⟨rfl,hE1⟩; replace hE:=hE.trans hE1; clear hE1)
        | (go_at_call 199; (first | (refine (s1.out _).mono ?_; clear s1) | refine (s2.out _).mono ?_); rintro e w1 ⟨rfl,hE1⟩; replace hE:=hE.trans hE1; clear hE1)
        | (go_at_call 125; (first | refine (c1.out _).mono ?_ | refine (c2.out _).mono ?_); rintro e w1 ⟨rfl,hE1⟩; replace hE:=hE.trans hE1; clear hE1))
    go_ret
    exact ⟨rfl,hE⟩
theorem fdm_pos {a b q r:Int} (hb:0<b) (h:r+b*q=a) (h0:0≤r) (h1:r<b):a.fdiv b=q∧a.fmod b=r:=(Int.fdiv_fmod_unique hb).2 ⟨h,h0,h1⟩
theorem fdm_neg {a b q r:Int} (hb:b<0) (h:r+b*q=a) (h0:b<r) (h1:r≤0):a.fdiv b=q∧a.fmod b=r:=(Int.fdiv_fmod_unique' hb).2 ⟨h,h0,h1⟩
theorem fdm_of_t {a b:Int} (hb:b≠0) :
  (a.tmod b=0∧a.fdiv b=a.tdiv b∧a.fmod b=a.tmod b)
  ∨ (a.tmod b<0∧b<0∧a.fdiv b=a.tdiv b∧a.fmod b=a.tmod b)
  ∨ (0<a.tmod b∧0<b∧a.fdiv b=a.tdiv b∧a.fmod b=a.tmod b)
  ∨ (a.tmod b<0∧0<b∧a.fdiv b=a.tdiv b-1∧a.fmod b=a.tmod b+b)
  ∨ (0<a.tmod b∧b<0∧a.fdiv b=a.tdiv b-1∧a.fmod b=a.tmod b+b):=by
 have h1:a.tmod b+b*a.tdiv b=a:=Int.tmod_add_mul_tdiv a b
 have h2:(a.tmod b).natAbs<b.natAbs:=by rw [Int.natAbs_tmod]; exact Nat.mod_lt _ (by omega)
 generalize a.tmod b=r at *
 generalize a.tdiv b=q at *
 have h3:r+b+b*(q-1)=a:=by rw [Int.mul_sub, ← h1]; omega
 rcases Int.lt_trichotomy r 0 with hr | hr | hr
 ·rcases Int.lt_or_gt_of_ne hb with hb' | hb'
  ·exact .inr (.inl ⟨hr,hb',fdm_neg hb' h1 (by omega) (by omega)⟩)
  ·exact .inr (.inr (.inr (.inl ⟨hr,hb',fdm_pos hb' h3 (by omega) (by omega)⟩)))
 ·rcases Int.lt_or_gt_of_ne hb with hb' | hb'
  ·exact .inl ⟨hr,fdm_neg hb' h1 (by omega) (by omega)⟩
  ·exact .inl ⟨hr,fdm_pos hb' h1 (by omega) (by omega)⟩
 ·rcases Int.lt_or_gt_of_ne hb with hb' | hb'
  ·exact .inr (.inr (.inr (.inr ⟨hr,hb',fdm_neg hb' h3 (by omega) (by omega)⟩)))
  ·exact .inr (.inr (.inl ⟨hr,hb',fdm_pos hb' h1 (by omega) (by omega)⟩))
set_option maxHeartbeats 2000000 in
theorem DivMod_fast {a b:Int} (h1:fits 18 a=true) (h2:fits 18 b=true) (ha:nd a≤LIM) (hb:nd b≤LIM) (hb0:b≠0) {w:World} (hL:Laid w) :
  Calls Tryz.prog 169 #[I a,I b] w fun e w'=>e = .returned (.tuple #[I (a.fdiv b),I (a.fmod b),.int .i64 0])∧Ext w w':=by
 have HL:=Lib.hid hL
 have b1:=fits_lt h1
 have b2:=fits_lt h2
 have l1:=Lib.hid (little_any (z:=a) (m:=18) ha (by omega))
 have l2:=Lib.hid (little_any (z:=b) (m:=18) hb (by omega))
 rw [h1] at l1; rw [h2] at l2
 have hz:(Lib.itoa b==[48])=false:=by rw [itoa_eq_zero]; exact decide_eq_false hb0
 have hbz:(b==0)=false:=beq_eq_false_iff_ne.2 hb0
 have hq:(a.tdiv b).natAbs<10^18:=by rw [Int.natAbs_tdiv]; exact Nat.lt_of_le_of_lt (Nat.div_le_self _ _) b1
 have hr:(a.tmod b).natAbs<b.natAbs:=by rw [Int.natAbs_tmod]; exact Nat.mod_lt _ (by omega)
 have hd:=fdm_of_t (a:=a) hb0
 obtain ⟨q,hqe⟩ : ∃ q,q=a.tdiv b:=⟨_,rfl⟩
 obtain ⟨r,hre⟩ : ∃ r,r=a.tmod b:=⟨_,rfl⟩
 rw [← hqe] at hq hd
 rw [← hre] at hr hd
 have hqe':=hqe.symm
 have hre':=hre.symm
 have wq:IntKind.i64.wrap q=q:=by rw [IntKind.wrap_i64]; omega
 have wr:IntKind.i64.wrap r=r:=by rw [IntKind.wrap_i64]; omega
 have wq1:IntKind.i64.wrap (q-1)=q-1:=by rw [IntKind.wrap_i64]; omega
 have hrn:r≠0→(r != 0)=true ∧ ¬ r=0:=fun h=>⟨bne_iff_ne.2 h,h⟩
 have hrz:r=0→(r==0)=true:=fun h=>beq_iff_eq.2 h
 have o1:=Lib.hid (fun w hL=>wholeOf_any (n:=a.fdiv b) (w:=w) (by omega) (by omega) hL)
 have o2:=Lib.hid (fun w hL=>wholeOf_any (n:=a.fmod b) (w:=w) (by omega) (by omega) hL)
 have hE:=Ext.refl w
 rcases hd with ⟨d1,d2,d3⟩ | ⟨d1,d2,d3,d4⟩ | ⟨d1,d2,d3,d4⟩ | ⟨d1,d2,d3,d4⟩ | ⟨d1,d2,d3,d4⟩
 all_goals
  first
   | have hrr:=hrz (by omega)
   | obtain ⟨hrr,hrr0⟩:=hrn (by omega)
  clear hrz hrn
  try rw [d2] at o1
  try rw [d2]
  try rw [d3] at o1
  try rw [d3] at o2
  try rw [d3]
  try rw [d4] at o2
  try rw [d4]
  try (have dd3 : ¬ r<0:=by omega)
  try (have dd4 : ¬ b<0:=by omega)
  try (have dd3:r<0:=by omega)
  try (have dd4:b<0:=by omega)
  try (have dd1:decide (r<0)=false:=decide_eq_false (by omega))
  try (have dd1:decide (r<0)=true:=decide_eq_true (by omega))
  try (have dd2:decide (b<0)=false:=decide_eq_false (by omega))
  try (have dd2:decide (b<0)=true:=decide_eq_true (by omega))
  clear d2 d3
  first
   | subst d1
   | clear d1
  try clear d4
  try (have wrb:IntKind.i64.wrap (r+b)=r+b:=by rw [IntKind.wrap_i64]; omega)
  clear b1 b2 h1 h2 ha hb hL hq hr hqe hre
  have hbe:(b=0)=False:=eq_false hb0
  go_enter Tryz.func169,Tryz.ntmps169
  go_wp2_with fail
  refine (l1.out _).mono ?_
  rintro e w1 ⟨rfl,hE1⟩
  go_wp2_with fail
  refine (l2.out _).mono ?_
  rintro e w2 ⟨rfl,hE2⟩
  go_wp2_with fail
  go_region
  go_wp2_with fail
  refine (o1.out _ (HL.out.ext (hE1.trans hE2).drew)).mono ?_
  rintro e w3 ⟨rfl,hE3⟩
  have hE13:=(hE1.trans hE2).drew.trans hE3
  go_wp2_with fail
  refine (o2.out _ (HL.out.ext hE13)).mono ?_
  rintro e w4 ⟨rfl,hE4⟩
  go_wp2_with fail
  go_ret3
  exact ⟨rfl,hE13.trans hE4⟩
theorem fdm_nat {a b:Int} (hb:b≠0) (q r:Nat) (hq:q=a.natAbs/b.natAbs) (hr:r=a.natAbs%b.natAbs) :
  ((a<0↔b<0)∧a.fdiv b=q∧a.fmod b=(if b<0 then -(r:Int) else r)) ∨
  (¬ (a<0↔b<0)∧r=0∧a.fdiv b = -(q:Int)∧a.fmod b=0) ∨
  (¬ (a<0↔b<0)∧r≠0∧a.fdiv b = -((q+1:Nat):Int)∧a.fmod b=(if b<0 then -((b.natAbs-r:Nat):Int) else ((b.natAbs-r:Nat):Int))):=by
 have hbn:0<b.natAbs:=by omega
 have h1:r+b.natAbs*q=a.natAbs:=by rw [hq,hr]; exact Nat.mod_add_div _ _
 have h2:r<b.natAbs:=by rw [hr]; exact Nat.mod_lt _ hbn
 clear hq hr
 have h1':(r:Int)+(b.natAbs:Int)*q=a.natAbs:=by rw [← h1]; simp
 generalize hB:b.natAbs=B at *
 generalize hA:a.natAbs=A at *
 by_cases ha:a<0 <;> by_cases hb':b<0
 ·have ea:a = -(A:Int):=by omega
  have eb:b = -(B:Int):=by omega
  refine .inl ⟨by simp [ha,hb'],?_⟩
  rw [if_pos hb']
  refine fdm_neg hb' ?_ (by omega) (by omega)
  rw [ea,eb, ← h1']; grind
 ·have ea:a = -(A:Int):=by omega
  have eb:b=(B:Int):=by omega
  by_cases hr:r=0
  ·refine .inr (.inl ⟨by simp [ha,hb'],hr,?_⟩)
   refine fdm_pos (by omega) ?_ (by omega) (by omega)
   rw [ea,eb, ← h1',hr]; grind
  ·refine .inr (.inr ⟨by simp [ha,hb'],hr,?_⟩)
   rw [if_neg hb']
   refine fdm_pos (by omega) ?_ (by omega) (by omega)
   rw [ea,eb, ← h1',Int.natCast_sub (by omega)]; grind
 ·have ea:a=(A:Int):=by omega
  have eb:b = -(B:Int):=by omega
  by_cases hr:r=0
  ·refine .inr (.inl ⟨by simp [ha,hb'],hr,?_⟩)
   refine fdm_neg (by omega) ?_ (by omega) (by omega)
   rw [ea,eb, ← h1',hr]; grind
  ·refine .inr (.inr ⟨by simp [ha,hb'],hr,?_⟩)
   rw [if_pos hb']
   refine fdm_neg (by omega) ?_ (by omega) (by omega)
   rw [ea,eb, ← h1',Int.natCast_sub (by omega)]; grind
 ·have ea:a=(A:Int):=by omega
  have eb:b=(B:Int):=by omega
  refine .inl ⟨by simp [ha,hb'],?_⟩
  rw [if_neg hb']
  refine fdm_pos (by omega) ?_ (by omega) (by omega)
  rw [ea,eb, ← h1']
theorem D_one:D 1=S [49]:=by unfold D; rw [Lib.decDigits]; rfl
set_option maxHeartbeats 4000000 in
theorem DivMod_slow {a b : Int} (hs : fits 18 a = false ∨ fits 18 a = true ∧ fits 18 b = false) (ha : nd a < LIM) (hb : nd b < LIM) (hb0 : b ≠ 0) {w : World} (hL : Laid w) :
    Calls Tryz.prog 169 #[I a,I b] w fun e w'=>e = .returned (.tuple #[I (a.fdiv b),I (a.fmod b),.int .i64 0])∧Ext w w':=by
  have HL:=Lib.hid hL
  have hz:(Lib.itoa b==[48])=false:=by rw [itoa_eq_zero]; exact decide_eq_false hb0
  have l1:=Lib.hid (little_any (z:=a) (m:=18) (Nat.le_of_lt ha) (by omega))
  have l2:=Lib.hid (little_any (z:=b) (m:=18) (Nat.le_of_lt hb) (by omega))
  have s1:=Lib.hid (split_any (z:=a) (Nat.le_of_lt ha))
  have s2:=Lib.hid (split_any (z:=b) (Nat.le_of_lt hb))
  have ha':Lib.nDigits a.natAbs<LIM:=ha
  have hb':Lib.nDigits b.natAbs<LIM:=hb
  have hdm:=Lib.hid (fun w hL=>dDivMod_any (w:=w) ha' hb' (by omega) hL)
  have hfd:=fdm_nat (a:=a) hb0 _ _ rfl rfl
  have hrb:a.natAbs%b.natAbs<b.natAbs:=Nat.mod_lt _ (by omega)
  have nq:Lib.nDigits (a.natAbs/b.natAbs)<LIM:=Nat.lt_of_le_of_lt (nDigits_mono (Nat.div_le_self _ _)) ha'
  have nr:Lib.nDigits (a.natAbs%b.natAbs)<LIM:=Nat.lt_of_le_of_lt (nDigits_mono (Nat.le_of_lt hrb)) hb'
  clear ha hb hb0 ha' hL
  generalize a.natAbs/b.natAbs=q at *
  generalize a.natAbs%b.natAbs=r at *
  have hadd:=Lib.hid (fun w hL=>dAdd_any (u:=q) (v:=1) (w:=w) nq (by unfold LIM; exact Nat.lt_of_le_of_lt (nDigits_le (u:=1) (k:=1) (by omega) (by omega)) (by omega)) hL)
  rw [D_one] at hadd
  have hsub:=Lib.hid (fun w hL=>dSub_any (u:=b.natAbs) (v:=r) (w:=w) hb' (Nat.le_of_lt hrb) hL)
  have nq1:Lib.nDigits (q+1)≤LIM:=by
    have:=nd_add (q:Int) 1
    unfold nd at this
    rw [show ((q:Int)+1).natAbs=q+1 by omega] at this
    simp only [Int.natAbs_natCast] at this
    have h1:Lib.nDigits (Int.natAbs 1)≤1:=nDigits_le (u:=1) (k:=1) (by omega) (by omega)
    have:=Lib.nDigits_pos q
    omega
  have nbr:Lib.nDigits (b.natAbs-r)≤LIM:=Nat.le_trans (nDigits_mono (Nat.sub_le _ _)) (Nat.le_of_lt hb')
  have J1:=Lib.hid (fun c w=>join_any c q (Nat.le_of_lt nq) w)
  have J2:=Lib.hid (fun c w=>join_any c r (Nat.le_of_lt nr) w)
  have J3:=Lib.hid (fun c w=>join_any c (q+1) nq1 w)
  have J4:=Lib.hid (fun c w=>join_any c (b.natAbs-r) nbr w)
  clear hb' hrb nq nr nq1 nbr
  generalize b.natAbs-r=d at *
  generalize hq1:q+1=q1 at *
  clear hq1
  generalize b.natAbs=bn at *
  have hrz:(Lib.decDigits r==[48])=decide (r=0):=dec_eq_zero r
  have hE:=Ext.refl w
  rcases hfd with ⟨e0,e1,e2⟩ | ⟨e0,e1,e2,e3⟩ | ⟨e0,e1,e2,e3⟩
  case inl =>
    clear hadd hsub J3 J4 hrz
    rcases neg_or a with ⟨ga,ea⟩ | ⟨ga,ea⟩ <;> rcases neg_or b with ⟨gb,eb⟩ | ⟨gb,eb⟩ <;> first | (exfalso; omega) | skip
    all_goals
      rw [ea] at s1; rw [eb] at s2
      first | rw [if_pos gb] at e2 | rw [if_neg (by omega)] at e2
      have E1:=Lib.hid e1
      have E2:=Lib.hid e2
      clear ga gb ea eb e0 e1 e2
      rcases hs with h1 | ⟨h1,h2⟩
      all_goals
        rw [h1] at l1
        try rw [h2] at l2
        go_enter Tryz.func169,Tryz.ntmps169
        go_wp2_with (first
          | (go_at_call 198; (first | (refine (l1.out _).mono ?_; clear l1) | refine (l2.out _).mono ?_); rintro e w1 ⟨rfl,hE1⟩; replace hE:=hE.trans hE1; clear hE1)
          | (go_at_call 199; (first | (refine (s1.out _).mono ?_; clear s1) | refine (s2.out _).mono ?_); rintro e w1 ⟨rfl,hE1⟩; replace hE:=hE.trans hE1; clear hE1)
          | (go_at_call 223; refine (hdm.out _ (HL.out.ext hE)).mono ?_; rintro e w1 ⟨rfl,hE1⟩; replace hE:=hE.trans hE1; clear hE1)
          | (go_at_call 200; (first | (refine (J1.out _ _).mono ?_; clear J1) | refine (J2.out _ _).mono ?_); rintro e w1 ⟨rfl,hE1⟩; replace hE:=hE.trans hE1; clear hE1))
        go_ret3
        exact ⟨ret_val (by rw [E1.out,E2.out]; rfl),hE⟩
  case inr.inl =>
    clear hadd hsub J3 J4
    rw [decide_eq_true e1] at hrz
    rcases neg_or a with ⟨ga,ea⟩ | ⟨ga,ea⟩ <;> rcases neg_or b with ⟨gb,eb⟩ | ⟨gb,eb⟩ <;> first | (exfalso; omega) | skip
    all_goals
      rw [ea] at s1; rw [eb] at s2
      have E1:=Lib.hid e2
      have E2:=Lib.hid e3
      have R:=Lib.hid e1
      clear ga gb ea eb e0 e1 e2 e3
      rcases hs with h1 | ⟨h1,h2⟩
      all_goals
        rw [h1] at l1
        try rw [h2] at l2
        go_enter Tryz.func169,Tryz.ntmps169
        go_wp2_with (first
          | (go_at_call 198; (first | (refine (l1.out _).mono ?_; clear l1) | refine (l2.out _).mono ?_); rintro e w1 ⟨rfl,hE1⟩; replace hE:=hE.trans hE1; clear hE1)
          | (go_at_call 199; (first | (refine (s1.out _).mono ?_; clear s1) | refine (s2.out _).mono ?_); rintro e w1 ⟨rfl,hE1⟩; replace hE:=hE.trans hE1; clear hE1)
          | (go_at_call 223; refine (hdm.out _ (HL.out.ext hE)).mono ?_; rintro e w1 ⟨rfl,hE1⟩; replace hE:=hE.trans hE1; clear hE1)
          | (go_at_call 200; (first | (refine (J1.out _ _).mono ?_; clear J1) | refine (J2.out _ _).mono ?_); rintro e w1 ⟨rfl,hE1⟩; replace hE:=hE.trans hE1; clear hE1))
        go_ret3
        exact ⟨ret_val (by rw [E1.out,E2.out,R.out]; rfl),hE⟩
  case inr.inr =>
    clear J1 J2
    rw [decide_eq_false e1] at hrz
    rcases neg_or a with ⟨ga,ea⟩ | ⟨ga,ea⟩ <;> rcases neg_or b with ⟨gb,eb⟩ | ⟨gb,eb⟩ <;> first | (exfalso; omega) | skip
    all_goals
      rw [ea] at s1; rw [eb] at s2
      first | rw [if_pos gb] at e3 | rw [if_neg (by omega)] at e3
      have E1:=Lib.hid e2
      have E2:=Lib.hid e3
      clear ga gb ea eb e0 e1 e2 e3
      rcases hs with h1 | ⟨h1,h2⟩
      all_goals
        rw [h1] at l1
        try rw [h2] at l2
        go_enter Tryz.func169,Tryz.ntmps169
        go_wp2_with (first
          | (go_at_call 198; (first | (refine (l1.out _).mono ?_; clear l1) | refine (l2.out _).mono ?_); rintro e w1 ⟨rfl,hE1⟩; replace hE:=hE.trans hE1; clear hE1)
          | (go_at_call 199; (first | (refine (s1.out _).mono ?_; clear s1) | refine (s2.out _).mono ?_); rintro e w1 ⟨rfl,hE1⟩; replace hE:=hE.trans hE1; clear hE1)
          | (go_at_call 223; refine (hdm.out _ (HL.out.ext hE)).mono ?_; rintro e w1 ⟨rfl,hE1⟩; replace hE:=hE.trans hE1; clear hE1)
          | (go_at_call 201; refine (hadd.out _ (HL.out.ext hE)).mono ?_; rintro e w1 ⟨rfl,hE1⟩; replace hE:=hE.trans hE1; clear hE1)
          | (go_at_call 202; refine (hsub.out _ (HL.out.ext hE)).mono ?_; rintro e w1 ⟨rfl,hE1⟩; replace hE:=hE.trans hE1; clear hE1)
          | (go_at_call 200; (first | (refine (J3.out _ _).mono ?_; clear J3) | refine (J4.out _ _).mono ?_); rintro e w1 ⟨rfl,hE1⟩; replace hE:=hE.trans hE1; clear hE1))
        go_ret3
        exact ⟨ret_val (by rw [E1.out,E2.out]; rfl),hE⟩
theorem DivMod_any {a b:Int} (ha:nd a<LIM) (hb:nd b<LIM) (hb0:b≠0) {w:World} (hL:Laid w) :
  Calls Tryz.prog 169 #[I a,I b] w fun e w'=>e = .returned (.tuple #[I (a.fdiv b),I (a.fmod b),.int .i64 0])∧Ext w w':=by
 cases h1:fits 18 a
 ·exact DivMod_slow (.inl h1) ha hb hb0 hL
 ·cases h2:fits 18 b
  ·exact DivMod_slow (.inr ⟨h1,h2⟩) ha hb hb0 hL
  ·exact DivMod_fast h1 h2 (Nat.le_of_lt ha) (Nat.le_of_lt hb) hb0 hL
end Go.Proofs.YtjnpakablgommaaGreatDoor
