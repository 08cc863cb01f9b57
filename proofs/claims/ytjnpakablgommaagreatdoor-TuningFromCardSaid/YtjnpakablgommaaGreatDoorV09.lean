/- Part 9 of the proof of the claim: contracts of the functions that it reaches, and plain laws; no condition. -/
import Derived.Test.YtjnpakablgommaaGreatDoorV08
import Derived.Test.YtjnpakablgommaaGreatDoorV01
import Derived.StillTail
import Derived.Lib.QuietBelow
import Derived.OrdersHeld
import Derived.Test.YtjnpakablgommaaGreatDoorV03
set_option maxRecDepth 100000
namespace Go.Proofs.YtjnpakablgommaaGreatDoor
open Go.RowKit Go.Sort
theorem I_nat (u:Nat):I (u:Int)=D u:=by unfold I D; rw [itoa_nat]
set_option maxHeartbeats 1000000 in
theorem dGcd_any {u v:Nat} (hu:Lib.nDigits u<LIM) (hv:Lib.nDigits v<LIM) {w:World} (hL:Laid w) :
  Calls Tryz.prog 214 #[D u,D v] w fun e w'=>e = .returned (D (Nat.gcd u v))∧Ext w w':=by
 have HL:=Lib.hid hL
 obtain ⟨g,hg⟩ : ∃ g,g=Nat.gcd u v:=⟨_,rfl⟩
 have H0:=Lib.hid (⟨hu,hv,hg.symm⟩:Lib.nDigits u<LIM∧Lib.nDigits v<LIM∧Nat.gcd u v=g)
 rw [← hg]
 clear hL hu hv hg
 go_enter Tryz.func214,Tryz.ntmps214
 go_wp2_with fail
 go_loopg [0,1,5,6,7] v (fun k av bv _ _ _ wr => ∃ (x y:Nat),av=D x∧bv=D y∧k=y∧Hid (Lib.nDigits x<LIM∧Lib.nDigits y<LIM∧Nat.gcd x y=g)∧Ext w wr)
 case atStart=>exact ⟨u,v,rfl,rfl,rfl,Lib.hid ⟨H0.out.1,H0.out.2.1,H0.out.2.2⟩,Ext.refl _⟩
 case round =>
  obtain ⟨x,y,rfl,rfl,rfl,HK,hE⟩:=hrel
  generalize wr=V at *
  by_cases hy:gk=0
  ·have hvz:(Lib.decDigits gk==[48])=true:=by rw [dec_eq_zero,decide_eq_true hy]
   have Hg:=Lib.hid (show g=x by have:=HK.out.2.2; rw [hy,Nat.gcd_zero_right] at this; exact this.symm)
   clear hy
   go_wp2_with fail
   go_ret
   exact ⟨ret_val (by rw [Hg.out]; rfl),hE⟩
  ·have hvz:(Lib.decDigits gk==[48])=false:=by rw [dec_eq_zero,decide_eq_false hy]
   have hdm:=Lib.hid (dDivMod_any HK.out.1 HK.out.2.1 hy (HL.out.ext hE))
   have Hm:=Lib.hid (Nat.mod_lt x (Nat.pos_of_ne_zero hy))
   have HK2:=Lib.hid (show Lib.nDigits gk<LIM∧Lib.nDigits (x%gk)<LIM∧Nat.gcd gk (x%gk)=g from ⟨HK.out.2.1,Nat.lt_of_le_of_lt (nDigits_mono (Nat.le_of_lt Hm.out)) HK.out.2.1,by rw [← HK.out.2.2,Nat.gcd_comm gk, ← Nat.gcd_rec,Nat.gcd_comm]⟩)
   generalize x%gk=r at *
   clear hy HK
   go_wp2_with fail
   refine hdm.out.mono ?_
   rintro e w1 ⟨rfl,hE1⟩
   go_wp2_with fail
   go_roundg r
   case measure=>exact Hm.out
   case rel=>exact ⟨gk,r,rfl,rfl,rfl,HK2,hE.trans hE1⟩
theorem wgcd_any {u v:Nat} (hu:u<1000000000000000000) (hv:v<1000000000000000000) (w:World) :
  Calls Tryz.prog 213 #[.int .i64 u,.int .i64 v] w fun e w'=>e = .returned (.int .i64 (Nat.gcd u v:Nat))∧Ext w w':=by
 obtain ⟨g,hg⟩ : ∃ g,g=Nat.gcd u v:=⟨_,rfl⟩
 have H0:=Lib.hid hg.symm
 rw [← hg]
 clear hg
 go_enter Tryz.func213,Tryz.ntmps213
 go_wp2_with fail
 go_loopg [0,1] v (fun k av bv wr => ∃ (x y:Nat),av = .int .i64 x∧bv = .int .i64 y∧k=y∧x<1000000000000000000∧y<1000000000000000000∧Hid (Nat.gcd x y=g)∧Ext w wr)
 case atStart=>exact ⟨u,v,rfl,rfl,rfl,hu,hv,H0,Ext.refl _⟩
 case round =>
  obtain ⟨x,y,rfl,rfl,rfl,hx,hy,HK,hE⟩:=hrel
  generalize wr=V at *
  by_cases hz:gk=0
  ·subst hz
   have Hg:=Lib.hid (show g=x by have:=HK.out; rw [Nat.gcd_zero_right] at this; exact this.symm)
   go_wp2_with fail
   go_ret
   exact ⟨ret_val (by rw [Hg.out]; rfl),hE⟩
  ·have hzi:((gk:Int)==0)=false:=beq_eq_false_iff_ne.2 (by omega)
   have hr:Int.tmod (x:Int) (gk:Int)=((x%gk:Nat):Int):=by rw [Int.tmod_eq_emod_of_nonneg (by omega)]; omega
   have Hm:=Nat.mod_lt x (Nat.pos_of_ne_zero hz)
   have HK2:=Lib.hid (show Nat.gcd gk (x%gk)=g by rw [← HK.out,Nat.gcd_comm gk, ← Nat.gcd_rec,Nat.gcd_comm])
   generalize x%gk=r at *
   clear hz HK
   go_wp2_with fail
   go_quiet (fail)
   go_wp2_with fail
   go_roundg r
   case measure=>exact Hm
   case rel=>exact ⟨gk,r,rfl,rfl,rfl,hy,by omega,HK2,hE.drewN _⟩
theorem fits_abs {z:Int}:fits 18 (z.natAbs:Int)=decide (Lib.nDigits z.natAbs≤18):=by
 unfold fits; rw [itoa_nat,Lib.decDigits_length]
theorem wGcd_any {a b:Int} (ha:nd a<LIM) (hb:nd b<LIM) {w:World} (hL:Laid w) :
  Calls Tryz.prog 148 #[I a,I b] w fun e w'=>e = .returned (I (Nat.gcd a.natAbs b.natAbs:Nat))∧Ext w w':=by
 have HL:=Lib.hid hL
 have h1:=Lib.hid (Abs_any (z:=a) (Nat.le_of_lt ha))
 have h2:=Lib.hid (Abs_any (z:=b) (Nat.le_of_lt hb))
 have l1:=Lib.hid (little_any (z:=(a.natAbs:Int)) (m:=18) (by show Lib.nDigits _≤_; rw [Int.natAbs_natCast]; exact Nat.le_of_lt ha) (by omega))
 have l2:=Lib.hid (little_any (z:=(b.natAbs:Int)) (m:=18) (by show Lib.nDigits _≤_; rw [Int.natAbs_natCast]; exact Nat.le_of_lt hb) (by omega))
 have hdg:=Lib.hid (fun w hL=>dGcd_any (u:=a.natAbs) (v:=b.natAbs) (w:=w) ha hb hL)
 rw [fits_abs] at l1 l2
 rw [I_nat]
 rw [I_nat] at h1 h2 l1 l2
 clear hL ha hb
 generalize a.natAbs=u at *
 generalize b.natAbs=v at *
 by_cases hs1:Lib.nDigits u≤18
 ·rw [decide_eq_true hs1] at l1
  by_cases hs2:Lib.nDigits v≤18
  ·rw [decide_eq_true hs2] at l2
   rw [if_pos rfl] at l1 l2
   have b1:=lt_pow_of_nd hs1
   have b2:=lt_pow_of_nd hs2
   have hgl:Nat.gcd u v<1000000000000000000:=by
    by_cases h0:u=0
    ·subst h0; rw [Nat.gcd_zero_left]; omega
    ·have:=Nat.gcd_le_left v (Nat.pos_of_ne_zero h0); omega
   have hg:=Lib.hid (wgcd_any (u:=u) (v:=v) (by omega) (by omega))
   have hof:=Lib.hid (fun w hL=>wholeOf_any (n:=(Nat.gcd u v:Nat)) (w:=w) (by omega) (by omega) hL)
   rw [I_nat] at hof
   clear hs1 hs2 hdg b1 b2
   generalize Nat.gcd u v=g at *
   go_enter Tryz.func148,Tryz.ntmps148
   go_wp2_with fail
   refine (h1.out _).mono ?_
   rintro e w1 ⟨rfl,hE1⟩
   go_wp2_with fail
   refine (h2.out _).mono ?_
   rintro e w2 ⟨rfl,hE2⟩
   go_wp2_with fail
   refine (l1.out _).mono ?_
   rintro e w3 ⟨rfl,hE3⟩
   go_wp2_with fail
   refine (l2.out _).mono ?_
   rintro e w4 ⟨rfl,hE4⟩
   go_wp2_with fail
   refine (hg.out _).mono ?_
   rintro e w5 ⟨rfl,hE5⟩
   go_wp2_with fail
   have hE:=(((hE1.trans hE2).trans hE3).trans hE4).trans hE5
   refine (hof.out _ (HL.out.ext hE)).mono ?_
   rintro e w6 ⟨rfl,hE6⟩
   go_wp2_with fail
   go_ret
   exact ⟨rfl,hE.trans hE6⟩
  ·rw [decide_eq_false hs2] at l2
   rw [if_pos rfl] at l1
   clear hs1 hs2
   go_enter Tryz.func148,Tryz.ntmps148
   go_wp2_with fail
   refine (h1.out _).mono ?_
   rintro e w1 ⟨rfl,hE1⟩
   go_wp2_with fail
   refine (h2.out _).mono ?_
   rintro e w2 ⟨rfl,hE2⟩
   go_wp2_with fail
   refine (l1.out _).mono ?_
   rintro e w3 ⟨rfl,hE3⟩
   go_wp2_with fail
   refine (l2.out _).mono ?_
   rintro e w4 ⟨rfl,hE4⟩
   go_wp2_with fail
   have hE:=((hE1.trans hE2).trans hE3).trans hE4
   refine (hdg.out _ (HL.out.ext hE)).mono ?_
   rintro e w5 ⟨rfl,hE5⟩
   go_wp2_with fail
   go_ret
   exact ⟨rfl,hE.trans hE5⟩
 ·rw [decide_eq_false hs1] at l1
  clear hs1
  go_enter Tryz.func148,Tryz.ntmps148
  go_wp2_with fail
  refine (h1.out _).mono ?_
  rintro e w1 ⟨rfl,hE1⟩
  go_wp2_with fail
  refine (h2.out _).mono ?_
  rintro e w2 ⟨rfl,hE2⟩
  go_wp2_with fail
  refine (l1.out _).mono ?_
  rintro e w3 ⟨rfl,hE3⟩
  go_wp2_with fail
  have hE:=(hE1.trans hE2).trans hE3
  refine (hdg.out _ (HL.out.ext hE)).mono ?_
  rintro e w5 ⟨rfl,hE5⟩
  go_wp2_with fail
  go_ret
  exact ⟨rfl,hE.trans hE5⟩
end Go.Proofs.YtjnpakablgommaaGreatDoor
namespace Go.Proofs.YtjnpakablgommaaGreatDoor
open Go Go.Sort
section
variable {P:Program} {ops:Array Oper} {md:Region.Mode} {C:World→Prop}
def wpAnyLQ (P:Program) (md:Region.Mode) (ops:Array Oper) (C:World→Prop) (n:Nat) (L:Array Bool→Act→Prop):Nat→Array Bool→Act→Prop
 | 0,listed,a=>L listed a
 | f+1,listed,a=>Region.ready md ops listed≠[] ∧ ∀ i∈Region.ready md ops listed,i<n∧qOp P ops C i (wpAnyLQ P md ops C n L f (listed.setIfInBounds i true)) a
theorem wpAny_of_headQ {n g:Nat} {L:Array Bool→Act→Prop} {Q':Exit→Act→World→Prop} (hL : ∀ listed a w,C w→L listed a→wpAny P md ops Q' g listed a w) :
  ∀ (f:Nat) (listed:Array Bool) (a:Act) (w:World),C w→wpAnyLQ P md ops C n L f listed a→wpAny P md ops Q' (f+g) listed a w
 | 0,listed,a,w,hC,h=>by rw [Nat.zero_add]; exact hL _ _ _ hC h
 | f+1,listed,a,w,hC,h=>by
  rw [show f+1+g=(f+g)+1 by omega]
  exact ⟨fun h0=>absurd h0 h.1,fun i hi=>wpOp_of_qOp hC (fun a' w' hw' h'=>wpAny_of_headQ hL f _ a' w' hw' h') (h.2 i hi).2⟩
theorem wpAnyLQ_first {n i:Nat} {oi:Oper} {v:Value} {L:Array Bool→Act→Prop} (hi:ops[i]? = some oi) (hsel : ∀ (j:Nat) (o:Oper) cs b,ops[j]? = some o→o.op ≠ .select cs b)
  (hs:Region.sinkB md ops n=true) (hc:Region.chainB md ops n=true) (hn:n<ops.size) (hin:i<n)
  (hdone : ∀ listed a,L listed a → ∀ j∈Region.ready md ops listed,n≤j) :
  ∀ (f:Nat) (listed:Array Bool) (a:Act),HeadInv md ops n listed →
   (∀ j oj,ops[j]? = some oj→j≠i→listed.getD j true=false→(∀ e∈oj.after,Region.binds md e=true→e.on≠i)→oi.apart ops oj=true) →
   i∈Region.ready md ops listed→YieldsIn P ops C oi v a →
   wpAnyLQ P md ops C n L f (listed.setIfInBounds i true) (a.put oi.dst v)→wpAnyLQ P md ops C n L (f+1) listed a:=by
 intro f
 induction f with
 | zero =>
  intro listed a inv _ hr hy H
  have hun:=(mem_ready.1 hr).1
  refine ⟨fun h=>(by rw [h] at hr; cases hr),fun j hj => ?_⟩
  have hjn:j<n:=by
   rcases Nat.lt_or_ge j n with h | h
   ·exact h
   ·exact absurd hj (tail_waits hs hc hn inv _ i rfl hin hun j h)
  refine ⟨hjn,?_⟩
  by_cases hji:j=i
  ·subst hji; exact hy.qOp hi H
  ·have:=hdone _ _ H j (ready_mono hj hji)
   omega
 | succ f ih =>
  intro listed a inv hfree hr hy H
  have hun:=(mem_ready.1 hr).1
  refine ⟨fun h=>(by rw [h] at hr; cases hr),fun j hj => ?_⟩
  have hjn:j<n:=by
   rcases Nat.lt_or_ge j n with h | h
   ·exact h
   ·exact absurd hj (tail_waits hs hc hn inv _ i rfl hin hun j h)
  refine ⟨hjn,?_⟩
  by_cases hji:j=i
  ·subst hji; exact hy.qOp hi H
  ·have h1:=(H.2 j (ready_mono hj hji)).2
   obtain ⟨hjun,oj,hoj,hall⟩:=mem_ready.1 hj
   have hnot : ∀ e∈oj.after,Region.binds md e=true→e.on≠i:=fun e he hb heq=>by
    have h1:=hall e he hb
    rw [heq,getD_both hun] at h1
    cases h1
   have h2:=qOp_put hoj (hfree j oj hoj hji hjun hnot) (fun cs b=>hsel i oi cs b hi) (fun cs b=>hsel j oj cs b hoj) hy h1
   have hfree' : ∀ k ok,ops[k]? = some ok→k≠i→(listed.setIfInBounds j true).getD k true=false →
     (∀ e∈ok.after,Region.binds md e=true→e.on≠i)→oi.apart ops ok=true:=fun k ok hk hki hun hno=>by
    refine hfree k ok hk hki ?_ hno
    by_cases hjk:j=k
    ·subst hjk; exact hjun
    ·rw [getD_set_ne true hjk] at hun; exact hun
   refine qOp_mono (fun a' h3=>ih (listed.setIfInBounds j true) a' (inv.set hj hjn) hfree' (ready_mono hr (Ne.symm hji)) h3.1 ?_) h2
   rw [Array.setIfInBounds_comm _ _ hji]
   exact h3.2
theorem wpAnyLQ_lex {n g:Nat} {Lq:Act→Prop} (hsel:Region.noSelect ops=true) (hs:Region.sinkB md ops n=true) (hc:Region.chainB md ops n=true) (hn:n<ops.size) :
  ∀ (l:List Oper) (k:Nat) (listed:Array Bool) (a:Act),(∀ j,j<l.length→l[j]? = ops[k+j]?)→k+l.length=n→HeadInv md ops n listed →
  Region.lexHead md ops g l.length k listed=true→wpQuiet P ops C Lq l a →
  wpAnyLQ P md ops C n (fun listed' a'=>Region.seqB md ops g n listed'=true∧Lq a') l.length listed a
 | [],k,listed,a,_,hk,_,hB,h=>by
  have:k=n:=by simpa using hk
  subst this
  exact ⟨by simpa [Region.lexHead] using hB,h⟩
 | o::l,k,listed,a,hl,hk,inv,hB,h=>by
  have h0:ops[k]? = some o:=by simpa using (hl 0 (by simp)).symm
  simp only [List.length_cons,Region.lexHead,Bool.and_eq_true] at hB
  obtain ⟨⟨hr,hf⟩,hB'⟩:=hB
  have hkn:k<n:=by simp only [List.length_cons] at hk; omega
  have hr':k∈Region.ready md ops listed:=by simpa using hr
  have hst:qOp P ops C k (wpQuiet P ops C Lq l) a:=by unfold qOp; simp only [h0]; exact h
  obtain ⟨v,hy,hK⟩:=yieldsIn_of_qOp h0 hst
  exact wpAnyLQ_first h0 (Region.noSelect_spec hsel) hs hc hn hkn (fun listed' a' hL=>seqB_ready hL.1) l.length listed a inv (Region.free_spec h0 hf) hr' hy
   (wpAnyLQ_lex hsel hs hc hn l (k+1) _ _ (fun j hj=>by have:=hl (j+1) (by simp; omega); simpa [Nat.add_assoc,Nat.add_comm 1 j] using this) (by simp only [List.length_cons] at hk; omega) (inv.set hr' hkn) hB' hK)
theorem wp_region_quiet_tail {id:Nat} {Q:Exit→Act→World→Prop} {a:Act} {w:World} {l:List Oper} (n:Nat) (hm:P.follows .mixedOrders=true) (hB:Region.lexTailB .any l.toArray n=true)
  (h:wpQuiet P l.toArray (fun w' => ∃ p:Regrown,w'=grow (redrawn w p.d) p.os) (fun a' => ∀ w',(∃ p:Regrown,w'=grow (redrawn w p.d) p.os)→wpList P l.toArray Q (l.drop n) a' w') (l.take n) a):(Code.region id l.toArray true).wp P Q a w:=by
 simp only [Region.lexTailB,Bool.and_eq_true,decide_eq_true_eq] at hB
 obtain ⟨⟨⟨⟨hsel,hn⟩,hs⟩,hc⟩,hlex⟩:=hB
 have hn':n<l.length:=by simpa using hn
 have htl:(l.take n).length=n:=by simp; omega
 have hdl:(l.drop n).length=l.toArray.size-n:=by simp
 have inv0:HeadInv .any l.toArray n (Array.replicate l.toArray.size false) :=
  ⟨by simp,fun j oj _ hl=>(by rw [getD_replicate_false] at hl; cases hl),fun t _ ht=>getD_in (by simpa using ht) (getD_replicate_false _ _)⟩
 have H:=wpAnyLQ_lex (md := .any) (g:=l.toArray.size-n) hsel hs hc hn (l.take n) 0 _ a (fun j hj=>by
  have hj':j<n:=by rw [htl] at hj; exact hj
  simp [hj']) (by simpa using htl) inv0 (by rw [htl]; exact hlex) h
 refine wp_region_any hm ?_
 have:=wpAny_of_headQ (Q':=Q) (g:=l.toArray.size-n) (fun listed a' w' hC hL=>by
  have:=wpAny_of_seq (md := .any) (Q':=Q) (l.drop n) n listed a' w' (fun j=>by simp [List.getElem?_drop]) (by rw [hdl]; exact hL.1) (hL.2 w' hC)
  rwa [hdl] at this) _ _ _ _ (show ∃ p:Regrown,({ w with drawn:=w.drawn+1 }:World)=grow (redrawn w p.d) p.os from ⟨⟨w.drawn+1,#[]⟩,by rw [grow_empty]; rfl⟩) H
 rw [htl,show n+(l.toArray.size-n)=l.toArray.size by omega] at this
 exact this
end
section
variable {P:Program} {ops:Array Oper} {md:Region.Mode} {Q:Exit→Act→World→Prop} {S:World→Prop}
def wpAnyLH (P:Program) (md:Region.Mode) (ops:Array Oper) (Q:Exit→Act→World→Prop) (S:World→Prop) (n:Nat) (L:Array Bool→Act→World→Prop):Nat→Array Bool→Act→World→Prop
 | 0,listed,a,w=>L listed a w
 | f+1,listed,a,w=>Region.ready md ops listed≠[] ∧ ∀ i∈Region.ready md ops listed,i<n∧wpOp P ops Q i (fun a' w'=>S w'∧wpAnyLH P md ops Q S n L f (listed.setIfInBounds i true) a' w') a w
theorem wpAny_of_headH {n g:Nat} {L:Array Bool→Act→World→Prop} (hL : ∀ listed a w,L listed a w→wpAny P md ops Q g listed a w) :
  ∀ (f:Nat) (listed:Array Bool) (a:Act) (w:World),wpAnyLH P md ops Q S n L f listed a w→wpAny P md ops Q (f+g) listed a w
 | 0,listed,a,w,h=>by rw [Nat.zero_add]; exact hL _ _ _ h
 | f+1,listed,a,w,h=>by
  rw [show f+1+g=(f+g)+1 by omega]
  exact ⟨fun h0=>absurd h0 h.1,fun i hi=>wpOp_mono (fun a' w' h'=>wpAny_of_headH hL f _ a' w' h'.2) (h.2 i hi).2⟩
theorem wpAnyLH_first {n i:Nat} {oi:Oper} {v:Value} {L:Array Bool→Act→World→Prop} (hi:ops[i]? = some oi) (hsel : ∀ (j:Nat) (o:Oper) cs b,ops[j]? = some o→o.op ≠ .select cs b)
  (hQ : ∀ c a w,Q (.panic c) (a.put oi.dst v) w→Q (.panic c) a w)
  (hs:Region.sinkB md ops n=true) (hc:Region.chainB md ops n=true) (hn:n<ops.size) (hin:i<n)
  (hdone : ∀ listed a w,L listed a w → ∀ j∈Region.ready md ops listed,n≤j) :
  ∀ (f:Nat) (listed:Array Bool) (a:Act) (w:World),HeadInv md ops n listed →
   (∀ j oj,ops[j]? = some oj→j≠i→listed.getD j true=false→(∀ e∈oj.after,Region.binds md e=true→e.on≠i)→oi.apart ops oj=true) →
   i∈Region.ready md ops listed→YieldsIf P ops S oi v a→S w →
   wpAnyLH P md ops Q S n L f (listed.setIfInBounds i true) (a.put oi.dst v) w→wpAnyLH P md ops Q S n L (f+1) listed a w:=by
 intro f
 induction f with
 | zero =>
  intro listed a w inv _ hr hy hS H
  have hun:=(mem_ready.1 hr).1
  refine ⟨fun h=>(by rw [h] at hr; cases hr),fun j hj => ?_⟩
  have hjn:j<n:=by
   rcases Nat.lt_or_ge j n with h | h
   ·exact h
   ·exact absurd hj (tail_waits hs hc hn inv _ i rfl hin hun j h)
  refine ⟨hjn,?_⟩
  by_cases hji:j=i
  ·subst hji; exact hy.wpOp hi hS ⟨hS,H⟩
  ·have:=hdone _ _ _ H j (ready_mono hj hji)
   omega
 | succ f ih =>
  intro listed a w inv hfree hr hy hS H
  have hun:=(mem_ready.1 hr).1
  refine ⟨fun h=>(by rw [h] at hr; cases hr),fun j hj => ?_⟩
  have hjn:j<n:=by
   rcases Nat.lt_or_ge j n with h | h
   ·exact h
   ·exact absurd hj (tail_waits hs hc hn inv _ i rfl hin hun j h)
  refine ⟨hjn,?_⟩
  by_cases hji:j=i
  ·subst hji; exact hy.wpOp hi hS ⟨hS,H⟩
  ·have h1:=(H.2 j (ready_mono hj hji)).2
   obtain ⟨hjun,oj,hoj,hall⟩:=mem_ready.1 hj
   have hnot : ∀ e∈oj.after,Region.binds md e=true→e.on≠i:=fun e he hb heq=>by
    have h1:=hall e he hb
    rw [heq,getD_both hun] at h1
    cases h1
   have h2:=wpOp_putIf hoj (hfree j oj hoj hji hjun hnot) (fun cs b=>hsel i oi cs b hi) (fun cs b=>hsel j oj cs b hoj) hQ hy h1
   have hfree' : ∀ k ok,ops[k]? = some ok→k≠i→(listed.setIfInBounds j true).getD k true=false →
     (∀ e∈ok.after,Region.binds md e=true→e.on≠i)→oi.apart ops ok=true:=fun k ok hk hki hun hno=>by
    refine hfree k ok hk hki ?_ hno
    by_cases hjk:j=k
    ·subst hjk; exact hjun
    ·rw [getD_set_ne true hjk] at hun; exact hun
   refine wpOp_mono (fun a' w' h3=>⟨h3.2.1,ih (listed.setIfInBounds j true) a' w' (inv.set hj hjn) hfree' (ready_mono hr (Ne.symm hji)) h3.1 h3.2.1 ?_⟩) h2
   rw [Array.setIfInBounds_comm _ _ hji]
   exact h3.2.2
def LTail (P:Program) (md:Region.Mode) (ops:Array Oper) (Q:Exit→Act→World→Prop) (n:Nat) (rest:List Oper) (listed:Array Bool) (a:Act) (w:World):Prop:=Region.seqB md ops (ops.size-n) n listed=true∧wpList P ops Q rest a w
theorem wpAnyLH_take {n i f:Nat} {oi:Oper} {v:Value} {rest:List Oper} {listed:Array Bool} {a:Act} {w:World} (hi:ops[i]? = some oi)
  (hB:(Region.noSelect ops&&decide (n<ops.size)&&Region.sinkB md ops n&&Region.chainB md ops n&&decide (i<n)&&Region.free md ops listed i&&(Region.ready md ops listed).contains i)=true)
  (hQ : ∀ c a w,Q (.panic c) (a.put oi.dst v) w→Q (.panic c) a w) (hy:YieldsIf P ops S oi v a) (hS:S w) (inv:HeadInv md ops n listed)
  (h:HeadInv md ops n (listed.setIfInBounds i true)→wpAnyLH P md ops Q S n (LTail P md ops Q n rest) f (listed.setIfInBounds i true) (a.put oi.dst v) w):wpAnyLH P md ops Q S n (LTail P md ops Q n rest) (f+1) listed a w:=by
 simp only [Bool.and_eq_true,decide_eq_true_eq] at hB
 obtain ⟨⟨⟨⟨⟨⟨hsel,hn⟩,hs⟩,hc⟩,hin⟩,hf⟩,hr⟩:=hB
 have hr':i∈Region.ready md ops listed:=by simpa using hr
 exact wpAnyLH_first hi (Region.noSelect_spec hsel) hQ hs hc hn hin (fun _ _ _ hL=>seqB_ready hL.1) f listed a w inv (Region.free_spec hi hf) hr' hy hS (h (inv.set hr' hin))
theorem wpAnyLH_one {n i f:Nat} {o:Oper} {L:Array Bool→Act→World→Prop} {listed:Array Bool} {a:Act} {w:World} (ho:ops[i]? = some o) (hr:(Region.ready md ops listed==[i]&&decide (i<n))=true)
  (h : ∀ K':Act→World→Prop,(∀ a w,S w→wpAnyLH P md ops Q S n L f (listed.setIfInBounds i true) a w→K' a w)→if Region.wanted o (yielded ops a.tmps)=true then Oper.wp P o a w K' Q else K' (a.put o.dst undef) w):wpAnyLH P md ops Q S n L (f+1) listed a w:=by
 simp only [Bool.and_eq_true,decide_eq_true_eq,beq_iff_eq] at hr
 refine ⟨fun h0=>(by rw [hr.1] at h0; cases h0),fun j hj => ?_⟩
 rw [hr.1] at hj
 obtain rfl:j=i:=by simpa using hj
 exact ⟨hr.2,wpOp_step ho (fun K' hK=>h K' (fun a w hS hW=>hK a w ⟨hS,hW⟩))⟩
theorem wpAnyLH_end {n:Nat} {rest:List Oper} {listed:Array Bool} {a:Act} {w:World} (hB:Region.seqB md ops (ops.size-n) n listed=true) (h:wpList P ops Q rest a w):wpAnyLH P md ops Q S n (LTail P md ops Q n rest) 0 listed a w:=⟨hB,h⟩
theorem wp_region_held_tail {id:Nat} {a:Act} {w:World} {l:List Oper} (n:Nat) (hm:P.follows .mixedOrders=true) (hn:n<l.length)
  (h:HeadInv .any l.toArray n (Array.replicate l.toArray.size false)→wpAnyLH P .any l.toArray Q S n (LTail P .any l.toArray Q n (l.drop n)) n (Array.replicate l.toArray.size false) a w.drew):(Code.region id l.toArray true).wp P Q a w:=by
 have hdl:(l.drop n).length=l.toArray.size-n:=by simp
 have inv0:HeadInv .any l.toArray n (Array.replicate l.toArray.size false) :=
  ⟨by simp,fun j oj _ hl=>(by rw [getD_replicate_false] at hl; cases hl),fun t _ ht=>getD_in (by simpa using ht) (getD_replicate_false _ _)⟩
 refine wp_region_any hm ?_
 have:=wpAny_of_headH (Q:=Q) (g:=l.toArray.size-n) (fun listed a' w' hL=>by
  have:=wpAny_of_seq (md := .any) (Q':=Q) (l.drop n) n listed a' w' (fun j=>by simp [List.getElem?_drop]) (by rw [hdl]; exact hL.1) hL.2
  rwa [hdl] at this) _ _ _ _ (h inv0)
 rw [show n+(l.toArray.size-n)=l.toArray.size by simp; omega] at this
 exact this
end
end Go.Proofs.YtjnpakablgommaaGreatDoor
namespace Go.Proofs.YtjnpakablgommaaGreatDoor
open Go.RowKit Go.Sort
theorem two_alloc (w:World) (T:TypeId) (a b:Value):OwnV T w.heap.size (w.alloc (.cells #[a,b] T)) w.heap.size 2 [a,b] :=
 OwnV.of (Nat.le_refl _) (by
  have h:(w.heap.push (.cells #[a,b] T))[w.heap.size]? = some (.cells #[a,b] T):=Array.getElem?_push_size
  exact h) (by simp) (by unfold maxLen; omega) rfl rfl
theorem two_end {T:TypeId} {B g:Nat} {w W:World} {a b:Value} (hE:Ext w W) (hg:w.heap.size≤g) (h:OwnV T B W g 2 [a,b]) (c d:Value) :
  W.cell? ⟨g,0,none⟩=some a∧W.cell? ⟨g,1,none⟩=some b∧W.frozen? ⟨g,0,none⟩=false∧W.frozen? ⟨g,1,none⟩=false ∧
   ((W.setCell ⟨g,0,none⟩ c).setCell ⟨g,1,none⟩ d).cell? ⟨g,0,none⟩=some c∧((W.setCell ⟨g,0,none⟩ c).setCell ⟨g,1,none⟩ d).cell? ⟨g,1,none⟩=some d ∧
   Hid (Ext w ((W.setCell ⟨g,0,none⟩ c).setCell ⟨g,1,none⟩ d)):=by
 obtain ⟨h1,g1⟩:=h.set 0 c
 obtain ⟨h2,g2⟩:=h1.set 1 d
 exact ⟨h.cell (j:=0) (by simp),h.cell (j:=1) (by simp),h.frozen 0,h.frozen 1,h2.cell (j:=0) (by simp),h2.cell (j:=1) (by simp),Lib.hid (ext_trans_grown hE (grown_trans g1 g2) hg)⟩
theorem itoa_one:Lib.itoa 1=[49]:=by rw [show (1:Int)=((1:Nat):Int) from rfl,itoa_nat]; decide +kernel
theorem itoa_eq_1 (z:Int):(Lib.itoa z==[49])=decide (z=1):=by
 by_cases h:z=1
 ·subst h; rw [itoa_one]; simp
 ·rw [decide_eq_false h,beq_eq_false_iff_ne]
  exact fun hc=>h (itoa_inj (hc.trans itoa_one.symm))
def RetF (w:World) (v:Value) (e:Ending) (w':World):Prop:=e = .returned v∧Ext w w'
def qg (n d:Int):Nat:=Nat.gcd n.natAbs d.natAbs
def qn (n d:Int):Int:=(if d<0 then -n else n)/(qg n d:Int)
def qd (n d:Int):Int:=(d.natAbs:Int)/(qg n d:Int)
theorem flittle_any {z:Int} (hn:nd z≤LIM) (w:World) :
  Calls Tryz.prog 220 #[I z] w fun e w'=>e = .returned (.tuple #[.int .i64 (if fits 9 z then z else 0),.bool (fits 9 z)])∧Ext w w':=by
 by_cases h:(Lib.itoa z).length≤9
 ·have e:fits 9 z=true:=decide_eq_true h
  rw [e,if_pos rfl]
  have hb:z.natAbs<10^18:=by
   refine lt_pow_of_nd (k:=18) ?_
   have:=itoa_length z; unfold nd at this; split at this <;> omega
  have hs:(⟨(Lib.itoa z).toArray⟩:ByteArray).size≤9223372036854775806:=by rw [I_size]; omega
  have H:=Lib.hid (Tryz.strconv_Atoi_ok ⟨(Lib.itoa z).toArray⟩ hs z (atoi_itoa (by omega) (by omega)))
  have ht : ¬ (9:Int)<((Lib.itoa z).length:Int):=by omega
  clear hb hs h hn e
  go_enter Tryz.func220,Tryz.ntmps220
  go_wp2_with (first | (go_at_call 251; refine (H.out _).mono ?_; rintro e w1 ⟨rfl,hb1⟩))
  go_quiet (fail)
  go_wp2
  go_ret2
  refine ⟨rfl,?_⟩
  rcases hb1 with rfl | ⟨t,rfl⟩
  ·exact (Ext.refl _).drewN _
  ·exact (ext_bytesWorld _ _ _).drewN _
 ·have e:fits 9 z=false:=decide_eq_false h
  rw [e]
  have hl:(Lib.itoa z).length≤1000000000001:=by rw [itoa_length]; unfold LIM at hn; split <;> omega
  have ht:(9:Int)<((Lib.itoa z).length:Int):=by omega
  have hr:(if false=true then z else 0)=0:=rfl
  rw [hr]
  clear hn h hr e
  unfold I
  generalize Lib.itoa z=l at *
  go_enter Tryz.func220,Tryz.ntmps220
  go_wp2
  go_ret2
  exact ⟨rfl,Ext.refl _⟩
theorem fboth_any {a b:Int} (ha:nd a≤LIM) (hb:nd b≤LIM) (w:World) :
  Calls Tryz.prog 161 #[.agg #[I a,I b]] w fun e w'=>e = .returned (.tuple #[.int .i64 (if fits 9 a then a else 0),.int .i64 (if fits 9 b then b else 0),.bool (fits 9 a&&fits 9 b)])∧Ext w w':=by
 have l1:=Lib.hid (flittle_any ha)
 have l2:=Lib.hid (flittle_any hb)
 obtain ⟨x,hx⟩ : ∃ x,x=(if fits 9 a then a else 0):=⟨_,rfl⟩
 obtain ⟨y,hy⟩ : ∃ y,y=(if fits 9 b then b else 0):=⟨_,rfl⟩
 rw [← hx] at l1 ⊢
 rw [← hy] at l2 ⊢
 clear hx hy ha hb
 generalize fits 9 a=f1 at *
 generalize fits 9 b=f2 at *
 have hX:Ext w (w.alloc (.cells #[I a,I b] 81)):=(Ext.refl w).alloc _
 have HO:=two_alloc w 81 (I a) (I b)
 have c0:(w.alloc (.cells #[I a,I b] 81)).cell? ⟨w.heap.size,0,none⟩=some (I a):=HO.cell (j:=0) (by simp)
 have c1:(w.alloc (.cells #[I a,I b] 81)).cell? ⟨w.heap.size,1,none⟩=some (I b):=HO.cell (j:=1) (by simp)
 clear HO
 cases f1
 all_goals cases f2
 all_goals
  go_enter Tryz.func161,Tryz.ntmps161
  go_wp2_with fail
  refine (l1.out _).mono ?_
  rintro e w1 ⟨rfl,hE1⟩
  replace c0:=hE1.cell c0
  replace c1:=hE1.cell c1
  go_wp2_with fail
  refine (l2.out _).mono ?_
  rintro e w2 ⟨rfl,hE2⟩
  have hE:=(hX.trans hE1).trans hE2
  go_wp2_with fail
  go_ret3
  exact ⟨rfl,hE⟩
set_option maxHeartbeats 1000000 in
theorem fof_any {n d:Int} (hn : -9000000000000000000≤n∧n≤9000000000000000000) (hd:0<d∧d≤9000000000000000000) {w:World} (hL:Laid w) :
  Calls Tryz.prog 162 #[.int .i64 n,.int .i64 d] w fun e w'=>e = .returned (.agg #[I (qn n d),I (qd n d)])∧Ext w w':=by
 have HL:=Lib.hid hL
 obtain ⟨g,hg⟩ : ∃ g,g=qg n d:=⟨_,rfl⟩
 have Hg:=Lib.hid hg
 have hg0:0<g:=by rw [hg]; exact Nat.gcd_pos_of_pos_right _ (by omega)
 have hgd:g≤d.natAbs:=by rw [hg]; exact Nat.gcd_le_right _ (by omega)
 have hgn:(g:Int)∣n:=by rw [hg]; exact Int.ofNat_dvd_left.2 (Nat.gcd_dvd_left _ _)
 have hgdv:(g:Int)∣d:=by rw [hg]; exact Int.ofNat_dvd_left.2 (Nat.gcd_dvd_right _ _)
 have e1:Int.tdiv n g=qn n d:=by unfold qn; rw [← hg,if_neg (by omega),Int.tdiv_eq_ediv_of_dvd hgn]
 have e2:Int.tdiv d g=qd n d:=by unfold qd; rw [← hg,Int.tdiv_eq_ediv_of_dvd hgdv,show (d.natAbs:Int)=d by omega]
 have b1 : -9000000000000000000≤qn n d∧qn n d≤9000000000000000000:=by
  rw [← e1]
  have:=Int.natAbs_tdiv_le_natAbs n g
  omega
 have b2 : -9000000000000000000≤qd n d∧qd n d≤9000000000000000000:=by
  rw [← e2]
  have:=Int.natAbs_tdiv_le_natAbs d g
  omega
 generalize qn n d=p at *
 generalize qd n d=q at *
 have hi1:=Lib.hid (fun w hL=>Itoa_any (n:=p) (w:=w) (by omega) (by omega) hL)
 have hi2:=Lib.hid (fun w hL=>Itoa_any (n:=q) (w:=w) (by omega) (by omega) hL)
 have hwp:IntKind.i64.wrap p=p:=IntWalk.i64_in _ (by omega)
 have hwq:IntKind.i64.wrap q=q:=IntWalk.i64_in _ (by omega)
 have hgz:((g:Int)==0)=false:=beq_eq_false_iff_ne.2 (by omega)
 have hgz2 : ¬ g=0:=by omega
 have Hgd:=Lib.hid hgd
 have Hg0:=Lib.hid hg0
 have HO:=Lib.hid (two_alloc w 81 (.string ⟨#[]⟩) (.string ⟨#[]⟩))
 have hX:Ext w (w.alloc (.cells #[.string ⟨#[]⟩,.string ⟨#[]⟩] 81)):=(Ext.refl w).alloc _
 clear hg hgn hgdv hL b1 b2 hgd hg0
 go_enter Tryz.func162,Tryz.ntmps162
 go_wp2_with fail
 generalize (w.alloc (.cells #[.string ⟨#[]⟩,.string ⟨#[]⟩] 81))=X at *
 go_loopg [5,6] d.natAbs (fun k av bv wr => ∃ (x y:Int),av = .int .i64 x∧bv = .int .i64 y∧k=y.natAbs∧(-9000000000000000000≤x∧x≤9000000000000000000)∧(-9000000000000000000≤y∧y≤9000000000000000000)∧Hid (qg x y=g)∧Ext X wr)
 case atStart=>exact ⟨n,d,rfl,rfl,rfl,hn,by omega,Lib.hid Hg.out.symm,Ext.refl _⟩
 case round =>
  obtain ⟨x,y,rfl,rfl,rfl,hx,hy,HK,hE⟩:=hrel
  generalize wr=V at *
  by_cases hz:y=0
  ·subst hz
   have hxg:=Lib.hid (show x.natAbs=g by have:=HK.out; unfold qg at this; simpa using this)
   by_cases hx0:x<0
   ·have hwx:IntKind.i64.wrap (-x)=(g:Int):=by rw [IntWalk.i64_in _ (by omega)]; have:=hxg.out; omega
    go_wp2_with fail
    have d7:Ext V V.drew:=(Ext.refl V).drew
    refine wp_region_held_tail (S:=fun W=>Ext V W) 8 (by kernel_rfl) (by simp) ?_
    intro inv
    refine wpAnyLH_take (i:=0) (v := .int .i64 n) rfl (by kernel_rfl) (fun _ _ _ h=>h) (.inl ⟨by rfl,fun W hW=>by go_simp⟩) d7 inv ?_
    intro inv
    go_simp
    refine wpAnyLH_take (i:=1) (v := .int .i64 g) rfl (by kernel_rfl) (fun _ _ _ h=>h) (.inl ⟨by rfl,fun W hW=>by go_simp⟩) d7 inv ?_
    intro inv
    go_simp
    refine wpAnyLH_take (i:=2) (v := .int .i64 p) rfl (by kernel_rfl) (fun _ _ _ h=>h) (.inl ⟨by rfl,fun W hW=>by go_simp⟩) d7 inv ?_
    intro inv
    go_simp
    refine wpAnyLH_take (i:=4) (v := .int .i64 d) rfl (by kernel_rfl) (fun _ _ _ h=>h) (.inl ⟨by rfl,fun W hW=>by go_simp⟩) d7 inv ?_
    intro inv
    go_simp
    refine wpAnyLH_take (i:=5) (v := .int .i64 g) rfl (by kernel_rfl) (fun _ _ _ h=>h) (.inl ⟨by rfl,fun W hW=>by go_simp⟩) d7 inv ?_
    intro inv
    go_simp
    refine wpAnyLH_take (i:=6) (v := .int .i64 q) rfl (by kernel_rfl) (fun _ _ _ h=>h) (.inl ⟨by rfl,fun W hW=>by go_simp⟩) d7 inv ?_
    intro inv
    go_simp
    refine wpAnyLH_one (i:=3) rfl (by kernel_rfl) (fun K0 hK0 => ?_)
    go_simp
    refine (hi1.out _ (HL.out.ext ((hX.trans hE).trans d7))).mono ?_
    rintro e w1 ⟨rfl,hE1⟩
    have d1:=d7.trans hE1
    refine hK0 _ _ d1 ?_
    clear hK0
    refine wpAnyLH_one (i:=7) rfl (by kernel_rfl) (fun K1 hK1 => ?_)
    go_simp
    refine (hi2.out _ (HL.out.ext ((hX.trans hE).trans d1))).mono ?_
    rintro e w2 ⟨rfl,hE2⟩
    have d2:=d1.trans hE2
    refine hK1 _ _ d2 ?_
    clear hK1
    refine wpAnyLH_end (by kernel_rfl) ?_
    have hE9:=(hX.trans hE).trans d2
    obtain ⟨q0,q1,f0,f1,r0,r1,hF⟩:=two_end hE9 (Nat.le_refl _) (HO.out.ext (hE.trans d2)) (I p) (I q)
    have Hres:=Lib.hid (show RetF w (.agg #[I p,I q]) (.returned (.agg #[I p,I q])) _ from ⟨rfl,hF.out⟩)
    go_wp2_with fail
    refine bodyPost_ret (v := .agg #[I p,I q]) (by simp [results,Tryz.results162,go_sem,r0,r1]) rfl Hres.out
   ·have hxe:x=(g:Int):=by have:=hxg.out; omega
    subst hxe
    go_wp2_with fail
    have d7:Ext V V.drew:=(Ext.refl V).drew
    refine wp_region_held_tail (S:=fun W=>Ext V W) 8 (by kernel_rfl) (by simp) ?_
    intro inv
    refine wpAnyLH_take (i:=0) (v := .int .i64 n) rfl (by kernel_rfl) (fun _ _ _ h=>h) (.inl ⟨by rfl,fun W hW=>by go_simp⟩) d7 inv ?_
    intro inv
    go_simp
    refine wpAnyLH_take (i:=1) (v := .int .i64 g) rfl (by kernel_rfl) (fun _ _ _ h=>h) (.inl ⟨by rfl,fun W hW=>by go_simp⟩) d7 inv ?_
    intro inv
    go_simp
    refine wpAnyLH_take (i:=2) (v := .int .i64 p) rfl (by kernel_rfl) (fun _ _ _ h=>h) (.inl ⟨by rfl,fun W hW=>by go_simp⟩) d7 inv ?_
    intro inv
    go_simp
    refine wpAnyLH_take (i:=4) (v := .int .i64 d) rfl (by kernel_rfl) (fun _ _ _ h=>h) (.inl ⟨by rfl,fun W hW=>by go_simp⟩) d7 inv ?_
    intro inv
    go_simp
    refine wpAnyLH_take (i:=5) (v := .int .i64 g) rfl (by kernel_rfl) (fun _ _ _ h=>h) (.inl ⟨by rfl,fun W hW=>by go_simp⟩) d7 inv ?_
    intro inv
    go_simp
    refine wpAnyLH_take (i:=6) (v := .int .i64 q) rfl (by kernel_rfl) (fun _ _ _ h=>h) (.inl ⟨by rfl,fun W hW=>by go_simp⟩) d7 inv ?_
    intro inv
    go_simp
    refine wpAnyLH_one (i:=3) rfl (by kernel_rfl) (fun K0 hK0 => ?_)
    go_simp
    refine (hi1.out _ (HL.out.ext ((hX.trans hE).trans d7))).mono ?_
    rintro e w1 ⟨rfl,hE1⟩
    have d1:=d7.trans hE1
    refine hK0 _ _ d1 ?_
    clear hK0
    refine wpAnyLH_one (i:=7) rfl (by kernel_rfl) (fun K1 hK1 => ?_)
    go_simp
    refine (hi2.out _ (HL.out.ext ((hX.trans hE).trans d1))).mono ?_
    rintro e w2 ⟨rfl,hE2⟩
    have d2:=d1.trans hE2
    refine hK1 _ _ d2 ?_
    clear hK1
    refine wpAnyLH_end (by kernel_rfl) ?_
    have hE9:=(hX.trans hE).trans d2
    obtain ⟨q0,q1,f0,f1,r0,r1,hF⟩:=two_end hE9 (Nat.le_refl _) (HO.out.ext (hE.trans d2)) (I p) (I q)
    have Hres:=Lib.hid (show RetF w (.agg #[I p,I q]) (.returned (.agg #[I p,I q])) _ from ⟨rfl,hF.out⟩)
    go_wp2_with fail
    refine bodyPost_ret (v := .agg #[I p,I q]) (by simp [results,Tryz.results162,go_sem,r0,r1]) rfl Hres.out
  ·have hzi:(y==0)=false:=beq_eq_false_iff_ne.2 hz
   have hr0:=Int.natAbs_tmod x y
   have Hm:=Nat.mod_lt x.natAbs (show 0<y.natAbs by omega)
   have HK2:=Lib.hid (show qg y (Int.tmod x y)=g by rw [← HK.out]; unfold qg; rw [hr0,Nat.gcd_comm y.natAbs, ← Nat.gcd_rec,Nat.gcd_comm])
   obtain ⟨r,hr⟩ : ∃ r,Int.tmod x y=r:=⟨_,rfl⟩
   rw [hr] at HK2 hr0
   rw [← hr0] at Hm
   have hwr:IntKind.i64.wrap r=r:=IntWalk.i64_in _ (by omega)
   clear hz HK hr0
   go_wp2_with fail
   go_quiet (fail)
   go_wp2_with fail
   go_roundg r.natAbs
   case measure=>exact Hm
   case rel=>exact ⟨y,r,rfl,rfl,rfl,hy,by omega,HK2,hE.drewN _⟩
end Go.Proofs.YtjnpakablgommaaGreatDoor
