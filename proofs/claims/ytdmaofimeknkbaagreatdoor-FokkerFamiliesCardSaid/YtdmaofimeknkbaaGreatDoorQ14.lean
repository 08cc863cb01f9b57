/- Part 14 of the proof of the claim: contracts of the functions that it reaches, and plain laws; no condition. -/
import Derived.Test.YtdmaofimeknkbaaGreatDoorQ08
import Derived.OrdersHeld
import Derived.Test.YtdmaofimeknkbaaGreatDoorQ13
import Derived.Test.YtdmaofimeknkbaaGreatDoorQ03
set_option maxRecDepth 100000
set_option maxHeartbeats 20000000
namespace Go.Proofs.YtdmaofimeknkbaaGreatDoor
section
open Go Go.Sort
section
variable {P:Program} {ops:Array Oper} {md:Region.Mode} {Q:Exit->Act->World->Prop} {S:World->Prop}
def Qe (P:Program) (md:Region.Mode) (ops:Array Oper) (Q:Exit->Act->World->Prop) (S:World->Prop) (n:Nat) (L:Array Bool->Act->World->Prop):Nat->Array Bool->Act->World->Prop
 | 0,listed,a,w=>L listed a w
 | f+1,listed,a,w=>Region.ready md ops listed≠[] /\ ∀i∈Region.ready md ops listed,i<n/\wpOp P ops Q i (λa' w'=>S w'/\Qe P md ops Q S n L f (listed.setIfInBounds i true) a' w') a w
theorem Kae {n g:Nat} {L:Array Bool->Act->World->Prop} (hL : ∀listed a w,L listed a w->wpAny P md ops Q g listed a w) :
  ∀(f:Nat) (listed:Array Bool) (a:Act) (w:World),Qe P md ops Q S n L f listed a w->wpAny P md ops Q (f+g) listed a w
 | 0,listed,a,w,h=>by rw [Nat.zero_add];exact hL _ _ _ h
 | f+1,listed,a,w,h=>by
  rw [show f+1+g=(f+g)+1 by omega];exact ⟨λh0=>absurd h0 h.1,λi hi=>wpOp_mono (λa' w' h'=>Kae hL f _ a' w' h'.2) (h.2 i hi).2⟩
theorem Ke1 {n i:Nat} {oi:Oper} {v:Value} {L:Array Bool->Act->World->Prop} (hi:ops[i]? = some oi) (hsel : ∀(j:Nat) (o:Oper) cs b,ops[j]? = some o->o.op ≠ .select cs b)
  (hQ : ∀c a w,Q (.panic c) (a.put oi.dst v) w->Q (.panic c) a w)
  (hs:Region.sinkB md ops n=true) (hc:Region.chainB md ops n=true) (hn:n<ops.size) (hin:i<n)
  (hdone : ∀listed a w,L listed a w -> ∀j∈Region.ready md ops listed,n<=j) :
  ∀(f:Nat) (listed:Array Bool) (a:Act) (w:World),HeadInv md ops n listed ->
   (∀j oj,ops[j]? = some oj->j≠i->listed.getD j true=false->(∀e∈oj.after,Region.binds md e=true->e.on≠i)->oi.apart ops oj=true) ->
   i∈Region.ready md ops listed->YieldsIf P ops S oi v a->S w ->
   Qe P md ops Q S n L f (listed.setIfInBounds i true) (a.put oi.dst v) w->Qe P md ops Q S n L (f+1) listed a w:=by
 intro f
 induction f with
 | zero =>
  intro listed a w inv _ hr hy hS H;have hun:=(mem_ready.1 hr).1;refine ⟨λh=>(by rw [h] at hr;cases hr),λj hj => ?_⟩
  have hjn:j<n:=by
   rcases Nat.lt_or_ge j n with h | h
   ·exact h
   ·exact absurd hj (tail_waits hs hc hn inv _ i rfl hin hun j h)
  refine ⟨hjn,?_⟩
  by_cases hji:j=i
  ·subst hji;exact hy.wpOp hi hS ⟨hS,H⟩
  ·have:=hdone _ _ _ H j (ready_mono hj hji);omega
 | succ f ih =>
  intro listed a w inv hfree hr hy hS H;have hun:=(mem_ready.1 hr).1;refine ⟨λh=>(by rw [h] at hr;cases hr),λj hj => ?_⟩
  have hjn:j<n:=by
   rcases Nat.lt_or_ge j n with h | h
   ·exact h
   ·exact absurd hj (tail_waits hs hc hn inv _ i rfl hin hun j h)
  refine ⟨hjn,?_⟩
  by_cases hji:j=i
  ·subst hji;exact hy.wpOp hi hS ⟨hS,H⟩
  ·have h1:=(H.2 j (ready_mono hj hji)).2;obtain ⟨hjun,oj,hoj,hall⟩:=mem_ready.1 hj
   have hnot : ∀e∈oj.after,Region.binds md e=true->e.on≠i:=λe he hb heq=>by
    have h1:=hall e he hb;rw [heq,getD_both hun] at h1
    cases h1
   have h2:=wpOp_putIf hoj (hfree j oj hoj hji hjun hnot) (λcs b=>hsel i oi cs b hi) (λcs b=>hsel j oj cs b hoj) hQ hy h1
   have hfree' : ∀k ok,ops[k]? = some ok->k≠i->(listed.setIfInBounds j true).getD k true=false ->
     (∀e∈ok.after,Region.binds md e=true->e.on≠i)->oi.apart ops ok=true:=λk ok hk hki hun hno=>by
    refine hfree k ok hk hki ?_ hno
    by_cases hjk:j=k
    ·subst hjk;exact hjun
    ·rw [getD_set_ne true hjk] at hun;exact hun
   refine wpOp_mono (λa' w' h3=>⟨h3.2.1,ih (listed.setIfInBounds j true) a' w' (inv.set hj hjn) hfree' (ready_mono hr (Ne.symm hji)) h3.1 h3.2.1 ?_⟩) h2;rw [Array.setIfInBounds_comm _ _ hji];exact h3.2.2
def Kcu (P:Program) (md:Region.Mode) (ops:Array Oper) (Q:Exit->Act->World->Prop) (n:Nat) (rest:List Oper) (listed:Array Bool) (a:Act) (w:World):Prop:=Region.seqB md ops (ops.size-n) n listed=true/\wpList P ops Q rest a w
theorem KbM {n i f:Nat} {oi:Oper} {v:Value} {rest:List Oper} {listed:Array Bool} {a:Act} {w:World} (hi:ops[i]? = some oi)
  (hB:(Region.noSelect ops&&decide (n<ops.size)&&Region.sinkB md ops n&&Region.chainB md ops n&&decide (i<n)&&Region.free md ops listed i&&(Region.ready md ops listed).contains i)=true)
  (hQ : ∀c a w,Q (.panic c) (a.put oi.dst v) w->Q (.panic c) a w) (hy:YieldsIf P ops S oi v a) (hS:S w) (inv:HeadInv md ops n listed)
  (h:HeadInv md ops n (listed.setIfInBounds i true)->Qe P md ops Q S n (Kcu P md ops Q n rest) f (listed.setIfInBounds i true) (a.put oi.dst v) w):Qe P md ops Q S n (Kcu P md ops Q n rest) (f+1) listed a w:=by
 simp only [Bool.and_eq_true,decide_eq_true_eq] at hB;obtain ⟨⟨⟨⟨⟨⟨hsel,hn⟩,hs⟩,hc⟩,hin⟩,hf⟩,hr⟩:=hB;have hr':i∈Region.ready md ops listed:=by simpa using hr
 exact Ke1 hi (Region.noSelect_spec hsel) hQ hs hc hn hin (λ_ _ _ hL=>seqB_ready hL.1) f listed a w inv (Region.free_spec hi hf) hr' hy hS (h (inv.set hr' hin))
theorem Kh {n i f:Nat} {o:Oper} {L:Array Bool->Act->World->Prop} {listed:Array Bool} {a:Act} {w:World} (ho:ops[i]? = some o) (hr:(Region.ready md ops listed==[i]&&decide (i<n))=true)
  (h : ∀K':Act->World->Prop,(∀a w,S w->Qe P md ops Q S n L f (listed.setIfInBounds i true) a w->K' a w)->if Region.wanted o (yielded ops a.tmps)=true then Oper.wp P o a w K' Q else K' (a.put o.dst undef) w):Qe P md ops Q S n L (f+1) listed a w:=by
 simp only [Bool.and_eq_true,decide_eq_true_eq,beq_iff_eq] at hr;refine ⟨λh0=>(by rw [hr.1] at h0;cases h0),λj hj => ?_⟩;rw [hr.1] at hj;obtain rfl:j=i:=by simpa using hj
 exact ⟨hr.2,wpOp_step ho (λK' hK=>h K' (λa w hS hW=>hK a w ⟨hS,hW⟩))⟩
theorem Ki {n:Nat} {rest:List Oper} {listed:Array Bool} {a:Act} {w:World} (hB:Region.seqB md ops (ops.size-n) n listed=true) (h:wpList P ops Q rest a w):Qe P md ops Q S n (Kcu P md ops Q n rest) 0 listed a w:=⟨hB,h⟩
theorem Ke {id:Nat} {a:Act} {w:World} {l:List Oper} (n:Nat) (hm:P.follows .mixedOrders=true) (hn:n<l.length)
  (h:HeadInv .any l.toArray n (Array.replicate l.toArray.size false)->Qe P .any l.toArray Q S n (Kcu P .any l.toArray Q n (l.drop n)) n (Array.replicate l.toArray.size false) a w.drew):(Code.region id l.toArray true).wp P Q a w:=by
 have hdl:(l.drop n).length=l.toArray.size-n:=by simp
 have inv0:HeadInv .any l.toArray n (Array.replicate l.toArray.size false) :=
  ⟨by simp,λj oj _ hl=>(by rw [getD_replicate_false] at hl;cases hl),λt _ ht=>getD_in (by simpa using ht) (getD_replicate_false _ _)⟩
 refine wp_region_any hm ?_
 have:=Kae (Q:=Q) (g:=l.toArray.size-n) (λlisted a' w' hL=>by
  have:=wpAny_of_seq (md := .any) (Q':=Q) (l.drop n) n listed a' w' (λj=>by simp [List.getElem?_drop]) (by rw [hdl];exact hL.1) hL.2
  rwa [hdl] at this) _ _ _ _ (h inv0)
 rw [show n+(l.toArray.size-n)=l.toArray.size by simp;omega] at this;exact this
end
section
open Go Go.Sort
variable {P:Program} {ops:Array Oper} {md:Region.Mode} {Q:Exit->Act->World->Prop} {S:World->Prop}
theorem tkA {n i f:Nat} {oi:Oper} {v:Value} {rest:List Oper} {listed:Array Bool} {a:Act} {w:World} (hi:ops[i]? = some oi) (hy:YieldsIf P ops S oi v a) (hS:S w) (inv:HeadInv md ops n listed)
  (h:HeadInv md ops n (listed.setIfInBounds i true)->Qe P md ops Q S n (Kcu P md ops Q n rest) f (listed.setIfInBounds i true) (a.put oi.dst v) w)
  (hB:(Region.noSelect ops&&decide (n<ops.size)&&Region.sinkB md ops n&&Region.chainB md ops n&&decide (i<n)&&Region.free md ops listed i&&(Region.ready md ops listed).contains i)=true:=by kernel_rfl)
  (hQ : ∀c a w,Q (.panic c) (a.put oi.dst v) w->Q (.panic c) a w:=by exact λ_ _ _ h=>h):Qe P md ops Q S n (Kcu P md ops Q n rest) (f+1) listed a w:=KbM hi hB hQ hy hS inv h
theorem tkS {n i f:Nat} {oi:Oper} {v:Value} {rest:List Oper} {listed:Array Bool} {a:Act} {w:World} (hi:ops[i]? = some oi) (hS:S w) (inv:HeadInv md ops n listed)
  (h:HeadInv md ops n (listed.setIfInBounds i true)->Qe P md ops Q S n (Kcu P md ops Q n rest) f (listed.setIfInBounds i true) (a.put oi.dst v) w)
  (hy:YieldsIf P ops S oi v a:=by exact .inl ⟨by rfl,λW hW=>by go_simp⟩)
  (hB:(Region.noSelect ops&&decide (n<ops.size)&&Region.sinkB md ops n&&Region.chainB md ops n&&decide (i<n)&&Region.free md ops listed i&&(Region.ready md ops listed).contains i)=true:=by kernel_rfl)
  (hQ : ∀c a w,Q (.panic c) (a.put oi.dst v) w->Q (.panic c) a w:=by exact λ_ _ _ h=>h):Qe P md ops Q S n (Kcu P md ops Q n rest) (f+1) listed a w:=KbM hi hB hQ hy hS inv h
end
end
section
open Go.RowKit Go.Sort
open Lib (hid)
theorem Qq (w:World) (T:TypeId) (a b:Value):Kd T w.heap.size (w.alloc (.cells #[a,b] T)) w.heap.size 2 [a,b] :=
 Kd.of (Nat.le_refl _) (by
  have h:(w.heap.push (.cells #[a,b] T))[w.heap.size]? = some (.cells #[a,b] T):=Array.getElem?_push_size
  exact h) (by simp) (by unfold maxLen;omega) rfl rfl
theorem Qj {T:TypeId} {B g:Nat} {w W:World} {a b:Value} (hE:Ext w W) (hg:w.heap.size<=g) (h:Kd T B W g 2 [a,b]) (c d:Value) :
  W.cell? ⟨g,0,none⟩=some a/\W.cell? ⟨g,1,none⟩=some b/\W.frozen? ⟨g,0,none⟩=false/\W.frozen? ⟨g,1,none⟩=false /\
   ((W.setCell ⟨g,0,none⟩ c).setCell ⟨g,1,none⟩ d).cell? ⟨g,0,none⟩=some c/\((W.setCell ⟨g,0,none⟩ c).setCell ⟨g,1,none⟩ d).cell? ⟨g,1,none⟩=some d /\
   Hid (Ext w ((W.setCell ⟨g,0,none⟩ c).setCell ⟨g,1,none⟩ d)):=by
 obtain ⟨h1,g1⟩:=h.set 0 c;obtain ⟨h2,g2⟩:=h1.set 1 d;exact ⟨h.cell (j:=0) (by simp),h.cell (j:=1) (by simp),h.frozen 0,h.frozen 1,h2.cell (j:=0) (by simp),h2.cell (j:=1) (by simp),hid (Kb hE (Kg g1 g2) hg)⟩
theorem Yl:Lib.itoa 1=[49]:=by rw [show (1:Int)=((1:Nat):Int) from rfl,Yk];decide +kernel
theorem Kau (z:Int):(Lib.itoa z==[49])=decide (z=1):=by
 by_cases h:z=1
 ·subst h;rw [Yl];simp
 ·rw [decide_eq_false h,beq_eq_false_iff_ne];exact λhc=>h (KmQ (hc.trans Yl.symm))
def YJ (w:World) (v:Value) (e:Ending) (w':World):Prop:=e = .returned v/\Ext w w'
def qg (n d:Int):Nat:=Nat.gcd n.natAbs d.natAbs
def qn (n d:Int):Int:=(if d<0 then -n else n)/(qg n d:Int)
def qd (n d:Int):Int:=(d.natAbs:Int)/(qg n d:Int)
theorem KcC {z:Int} (hn:nd z<=LIM) (w:World) :
  Calls Tryz.prog 156 #[I z] w λe w'=>e = .returned (.tuple #[.int .i64 (if Kt 9 z then z else 0),.bool (Kt 9 z)])/\Ext w w':=by
 by_cases h:(Lib.itoa z).length<=9
 ·have e:Kt 9 z=true:=decide_eq_true h;rw [e,if_pos rfl]
  have hb:z.natAbs<10^18:=by
   refine KE (k:=18) ?_;have:=Zb z;unfold nd at this;split at this<;>omega
  have hs:(⟨(Lib.itoa z).toArray⟩:ByteArray).size<=9223372036854775806:=by rw [KfV];omega
  have H:=hid (Tryz.strconv_Atoi_ok ⟨(Lib.itoa z).toArray⟩ hs z (Ke6 (by omega) (by omega)));have ht : ¬(9:Int)<((Lib.itoa z).length:Int):=by omega
  clear hb hs h hn e
  go_enter Tryz.func156,Tryz.ntmps156
  go_wp2_with (first | (go_at_call 138;refine (H.out _).mono ?_;rintro e w1 ⟨rfl,hb1⟩))
  go_quiet (fail)
  go_wp2
  go_ret2;refine ⟨rfl,?_⟩
  rcases hb1 with rfl | ⟨t,rfl⟩
  ·exact (Ext.refl _).drewN _
  ·exact (Q3 _ _ _).drewN _
 ·have e:Kt 9 z=false:=decide_eq_false h;rw [e];have hl:(Lib.itoa z).length<=1000000000001:=by rw [Zb];unfold LIM at hn;split<;>omega
  have ht:(9:Int)<((Lib.itoa z).length:Int):=by omega
  have hr:(if false=true then z else 0)=0:=rfl;rw [hr];clear hn h hr e;unfold I;generalize Lib.itoa z=l at *
  go_enter Tryz.func156,Tryz.ntmps156
  go_wp2
  go_ret2;exact ⟨rfl,Ext.refl _⟩
theorem Kap {a b:Int} (ha:nd a<=LIM) (hb:nd b<=LIM) (w:World) :
  Calls Tryz.prog 126 #[.agg #[I a,I b]] w λe w'=>e = .returned (.tuple #[.int .i64 (if Kt 9 a then a else 0),.int .i64 (if Kt 9 b then b else 0),.bool (Kt 9 a&&Kt 9 b)])/\Ext w w':=by
 have l1:=hid (KcC ha);have l2:=hid (KcC hb);obtain ⟨x,hx⟩ : ∃x,x=(if Kt 9 a then a else 0):=⟨_,rfl⟩
 obtain ⟨y,hy⟩ : ∃y,y=(if Kt 9 b then b else 0):=⟨_,rfl⟩
 rw [<-hx] at l1 ⊢;rw [<-hy] at l2 ⊢;clear hx hy ha hb;generalize Kt 9 a=f1 at *;generalize Kt 9 b=f2 at *;have hX:Ext w (w.alloc (.cells #[I a,I b] 47)):=(Ext.refl w).alloc _;have HO:=Qq w 47 (I a) (I b);have c0:(w.alloc (.cells #[I a,I b] 47)).cell? ⟨w.heap.size,0,none⟩=some (I a):=HO.cell (j:=0) (by simp);have c1:(w.alloc (.cells #[I a,I b] 47)).cell? ⟨w.heap.size,1,none⟩=some (I b):=HO.cell (j:=1) (by simp);clear HO
 cases f1
 all_goals cases f2
 all_goals
  go_enter Tryz.func126,Tryz.ntmps126
  go_wp2_with fail;refine (l1.out _).mono ?_;rintro e w1 ⟨rfl,hE1⟩;replace c0:=hE1.cell c0;replace c1:=hE1.cell c1;go_wp2_with fail;refine (l2.out _).mono ?_;rintro e w2 ⟨rfl,hE2⟩;have hE:=(hX.trans hE1).trans hE2;go_wp2_with fail
  go_ret3
  exact ⟨rfl,hE⟩
theorem KjP {n d:Int} (hn : -9000000000000000000<=n/\n<=9000000000000000000) (hd:0<d/\d<=9000000000000000000) {w:World} (hL:Laid w) :
  Calls Tryz.prog 127 #[.int .i64 n,.int .i64 d] w λe w'=>e = .returned (.agg #[I (qn n d),I (qd n d)])/\Ext w w':=by
 have HL:=hid hL;obtain ⟨g,hg⟩ : ∃g,g=qg n d:=⟨_,rfl⟩
 have Hg:=hid hg;have hg0:0<g:=by rw [hg];exact Nat.gcd_pos_of_pos_right _ (by omega)
 have hgd:g<=d.natAbs:=by rw [hg];exact Nat.gcd_le_right _ (by omega)
 have hgn:(g:Int)∣n:=by rw [hg];exact Int.ofNat_dvd_left.2 (Nat.gcd_dvd_left _ _)
 have hgdv:(g:Int)∣d:=by rw [hg];exact Int.ofNat_dvd_left.2 (Nat.gcd_dvd_right _ _)
 have e1:Int.tdiv n g=qn n d:=by unfold qn;rw [<-hg,if_neg (by omega),Int.tdiv_eq_ediv_of_dvd hgn]
 have e2:Int.tdiv d g=qd n d:=by unfold qd;rw [<-hg,Int.tdiv_eq_ediv_of_dvd hgdv,show (d.natAbs:Int)=d by omega]
 have b1 : -9000000000000000000<=qn n d/\qn n d<=9000000000000000000:=by
  rw [<-e1];have:=Int.natAbs_tdiv_le_natAbs n g;omega
 have b2 : -9000000000000000000<=qd n d/\qd n d<=9000000000000000000:=by
  rw [<-e2];have:=Int.natAbs_tdiv_le_natAbs d g;omega
 generalize qn n d=p at *;generalize qd n d=q at *;have hi1:=hid (λw hL=>Kdl (n:=p) (w:=w) (by omega) (by omega) hL);have hi2:=hid (λw hL=>Kdl (n:=q) (w:=w) (by omega) (by omega) hL);have hwp:IntKind.i64.wrap p=p:=IntWalk.i64_in _ (by omega);have hwq:IntKind.i64.wrap q=q:=IntWalk.i64_in _ (by omega);have hgz:((g:Int)==0)=false:=beq_eq_false_iff_ne.2 (by omega);have hgz2 : ¬g=0:=by omega
 have Hgd:=hid hgd;have Hg0:=hid hg0;have HO:=hid (Qq w 47 (.string ⟨#[]⟩) (.string ⟨#[]⟩));have hX:Ext w (w.alloc (.cells #[.string ⟨#[]⟩,.string ⟨#[]⟩] 47)):=(Ext.refl w).alloc _;clear hg hgn hgdv hL b1 b2 hgd hg0
 go_enter Tryz.func127,Tryz.ntmps127
 go_wp2_with fail;generalize (w.alloc (.cells #[.string ⟨#[]⟩,.string ⟨#[]⟩] 47))=X at *
 go_loopg [5,6] d.natAbs (λk av bv wr => ∃(x y:Int),av = .int .i64 x/\bv = .int .i64 y/\k=y.natAbs/\(-9000000000000000000<=x/\x<=9000000000000000000)/\(-9000000000000000000<=y/\y<=9000000000000000000)/\Hid (qg x y=g)/\Ext X wr)
 case atStart=>exact ⟨n,d,rfl,rfl,rfl,hn,by omega,hid Hg.out.symm,Ext.refl _⟩
 case round =>
  obtain ⟨x,y,rfl,rfl,rfl,hx,hy,HK,hE⟩:=hrel;generalize wr=V at *
  by_cases hz:y=0
  ·subst hz;have hxg:=hid (show x.natAbs=g by have:=HK.out;unfold qg at this;simpa using this)
   by_cases hx0:x<0
   ·have hwx:IntKind.i64.wrap (-x)=(g:Int):=by rw [IntWalk.i64_in _ (by omega)];have:=hxg.out;omega
    go_wp2_with fail;have d7:Ext V V.drew:=(Ext.refl V).drew;refine Ke (S:=λW=>Ext V W) 8 (by kernel_rfl) (by simp) ?_;intro inv;refine tkS (i:=0) (v := .int .i64 n) rfl d7 inv ?_;intro inv;go_simp;refine tkS (i:=1) (v := .int .i64 g) rfl d7 inv ?_;intro inv;go_simp;refine tkS (i:=2) (v := .int .i64 p) rfl d7 inv ?_;intro inv;go_simp;refine tkS (i:=4) (v := .int .i64 d) rfl d7 inv ?_;intro inv;go_simp;refine tkS (i:=5) (v := .int .i64 g) rfl d7 inv ?_;intro inv;go_simp;refine tkS (i:=6) (v := .int .i64 q) rfl d7 inv ?_;intro inv;go_simp;refine Kh (i:=3) rfl (by kernel_rfl) (λK0 hK0 => ?_);go_simp;refine (hi1.out _ (HL.out.ext ((hX.trans hE).trans d7))).mono ?_;rintro e w1 ⟨rfl,hE1⟩;have d1:=d7.trans hE1;refine hK0 _ _ d1 ?_;clear hK0;refine Kh (i:=7) rfl (by kernel_rfl) (λK1 hK1 => ?_);go_simp;refine (hi2.out _ (HL.out.ext ((hX.trans hE).trans d1))).mono ?_;rintro e w2 ⟨rfl,hE2⟩;have d2:=d1.trans hE2;refine hK1 _ _ d2 ?_;clear hK1;refine Ki (by kernel_rfl) ?_;have hE9:=(hX.trans hE).trans d2;obtain ⟨q0,q1,f0,f1,r0,r1,hF⟩:=Qj hE9 (Nat.le_refl _) (HO.out.ext (hE.trans d2)) (I p) (I q);have Hres:=hid (show YJ w (.agg #[I p,I q]) (.returned (.agg #[I p,I q])) _ from ⟨rfl,hF.out⟩);go_wp2_with fail;refine bodyPost_ret (v := .agg #[I p,I q]) (by simp [results,Tryz.results127,go_sem,r0,r1]) rfl Hres.out
   ·have hxe:x=(g:Int):=by have:=hxg.out;omega
    subst hxe;go_wp2_with fail;have d7:Ext V V.drew:=(Ext.refl V).drew;refine Ke (S:=λW=>Ext V W) 8 (by kernel_rfl) (by simp) ?_;intro inv;refine tkS (i:=0) (v := .int .i64 n) rfl d7 inv ?_;intro inv;go_simp;refine tkS (i:=1) (v := .int .i64 g) rfl d7 inv ?_;intro inv;go_simp;refine tkS (i:=2) (v := .int .i64 p) rfl d7 inv ?_;intro inv;go_simp;refine tkS (i:=4) (v := .int .i64 d) rfl d7 inv ?_;intro inv;go_simp;refine tkS (i:=5) (v := .int .i64 g) rfl d7 inv ?_;intro inv;go_simp;refine tkS (i:=6) (v := .int .i64 q) rfl d7 inv ?_;intro inv;go_simp;refine Kh (i:=3) rfl (by kernel_rfl) (λK0 hK0 => ?_);go_simp;refine (hi1.out _ (HL.out.ext ((hX.trans hE).trans d7))).mono ?_;rintro e w1 ⟨rfl,hE1⟩;have d1:=d7.trans hE1;refine hK0 _ _ d1 ?_;clear hK0;refine Kh (i:=7) rfl (by kernel_rfl) (λK1 hK1 => ?_);go_simp;refine (hi2.out _ (HL.out.ext ((hX.trans hE).trans d1))).mono ?_;rintro e w2 ⟨rfl,hE2⟩;have d2:=d1.trans hE2;refine hK1 _ _ d2 ?_;clear hK1;refine Ki (by kernel_rfl) ?_;have hE9:=(hX.trans hE).trans d2;obtain ⟨q0,q1,f0,f1,r0,r1,hF⟩:=Qj hE9 (Nat.le_refl _) (HO.out.ext (hE.trans d2)) (I p) (I q);have Hres:=hid (show YJ w (.agg #[I p,I q]) (.returned (.agg #[I p,I q])) _ from ⟨rfl,hF.out⟩);go_wp2_with fail;refine bodyPost_ret (v := .agg #[I p,I q]) (by simp [results,Tryz.results127,go_sem,r0,r1]) rfl Hres.out
  ·have hzi:(y==0)=false:=beq_eq_false_iff_ne.2 hz;have hr0:=Int.natAbs_tmod x y;have Hm:=Nat.mod_lt x.natAbs (show 0<y.natAbs by omega);have HK2:=hid (show qg y (Int.tmod x y)=g by rw [<-HK.out];unfold qg;rw [hr0,Nat.gcd_comm y.natAbs,<-Nat.gcd_rec,Nat.gcd_comm]);obtain ⟨r,hr⟩ : ∃r,Int.tmod x y=r:=⟨_,rfl⟩
   rw [hr] at HK2 hr0;rw [<-hr0] at Hm;have hwr:IntKind.i64.wrap r=r:=IntWalk.i64_in _ (by omega);clear hz HK hr0;go_wp2_with fail
   go_quiet (fail)
   go_wp2_with fail
   go_roundg r.natAbs
   case measure=>exact Hm
   case rel=>exact ⟨y,r,rfl,rfl,rfl,hy,by omega,HK2,hE.drewN _⟩
theorem Kpp {a b:Int} (h:a.natAbs<=b.natAbs):nd a<=nd b:=Qx h
theorem Kqk {n d:Int} (h:d≠0):0<qg n d:=Nat.gcd_pos_of_pos_right _ (by omega)
theorem Kq8 {n d:Int} (h:d≠0):qg n d<=d.natAbs:=Nat.gcd_le_right _ (by omega)
theorem Yy {n d:Int} (hn:nd n<LIM) (hd:nd d<LIM) (h0:d≠0) {w:World} (hL:Laid w) :
  Calls Tryz.prog 39 #[I n,I d] w λe w'=>e = .returned (.agg #[I (qn n d),I (qd n d)])/\Ext w w':=by
 have HL:=hid hL;obtain ⟨n',hn'⟩ : ∃n',n'=if d<0 then -n else n:=⟨_,rfl⟩
 obtain ⟨d',hd'⟩ : ∃d',d'=(d.natAbs:Int):=⟨_,rfl⟩
 obtain ⟨g,hg⟩ : ∃g,g=qg n d:=⟨_,rfl⟩
 have Hg:=hid hg;have hg0:0<g:=by rw [hg];exact Kqk h0
 have hgl:g<=d.natAbs:=by rw [hg];exact Kq8 h0
 have e1:qn n d=n'/(g:Int):=by unfold qn;rw [<-hg,<-hn']
 have e2:qd n d=d'/(g:Int):=by unfold qd;rw [<-hg,<-hd']
 have hnn:nd n'<LIM:=by rw [hn'];split;(rw [Kb4];exact hn);exact hn
 have hdd:nd d'<LIM:=by rw [hd'];show Lib.nDigits _<_;rw [Int.natAbs_natCast];exact hd
 have hgn:nd (g:Int)<LIM:=Nat.lt_of_le_of_lt (Kpp (by rw [Int.natAbs_natCast];exact hgl)) hd
 have hgc:Nat.gcd n'.natAbs d'.natAbs=g:=by
  rw [hg,hn',hd',Int.natAbs_natCast];unfold qg
  split
  ·rw [Int.natAbs_neg]
  ·rfl
 have hs:=hid (ZJ d);have hN1:=hid (Kah (z:=n) (Nat.le_of_lt hn));have hN2:=hid (Kah (z:=d) (Nat.le_of_lt hd));have hG:=hid (λw hL=>Kif (a:=n') (b:=d') (w:=w) hnn hdd hL);rw [hgc] at hG;have hD1:=hid (λw hL=>Qf (a:=n') (b:=(g:Int)) (w:=w) hnn hgn (by omega) hL);have hD2:=hid (λw hL=>Qf (a:=d') (b:=(g:Int)) (w:=w) hdd hgn (by omega) hL);rw [Int.fdiv_eq_ediv_of_nonneg _ (by omega),<-e1] at hD1;rw [Int.fdiv_eq_ediv_of_nonneg _ (by omega),<-e2] at hD2;have h1:=Kau (g:Int);have E1:=hid (show g=1->qn n d=n'/\qd n d=d' from λh=>by rw [e1,e2,h];exact ⟨Int.ediv_one _,Int.ediv_one _⟩);clear e1 e2;generalize qn n d=x at *;generalize qd n d=y at *;generalize n'.fmod g=r1 at *;generalize d'.fmod g=r2 at *;have HO:=hid (Qq w 47 (.string ⟨#[]⟩) (.string ⟨#[]⟩));have hX:Ext w (w.alloc (.cells #[.string ⟨#[]⟩,.string ⟨#[]⟩] 47)):=(Ext.refl w).alloc _;have Hd':=hid hd';have Hn':=hid hn';clear hg hgl hL hn hd hnn hdd hgn hgc hn' hd' hg0
 by_cases hneg:d<0
 ·have hsg:d.sign = -1:=Int.sign_eq_neg_one_of_neg hneg;have en : -n=n':=by rw [Hn'.out,if_pos hneg]
  have ed : -d=d':=by rw [Hd'.out];omega
  rw [hsg] at hs;rw [en] at hN1;rw [ed] at hN2;clear hsg hneg en ed h0
  by_cases hg1:g=1
  ·rw [decide_eq_true (by omega)] at h1;obtain ⟨rfl,rfl⟩:=E1.out hg1;clear hg1 E1
   go_enter Tryz.func39,Tryz.ntmps39
   go_wp2_with fail;refine (hs.out _).mono ?_;rintro e w1 ⟨rfl,hE1⟩;replace HO:=hid (HO.out.ext hE1);replace hX:=hX.trans hE1;clear hE1;go_wp2_with fail;refine (hN1.out _).mono ?_;rintro e w1 ⟨rfl,hE1⟩;replace HO:=hid (HO.out.ext hE1);replace hX:=hX.trans hE1;clear hE1;go_wp2_with fail;refine (hN2.out _).mono ?_;rintro e w1 ⟨rfl,hE1⟩;replace HO:=hid (HO.out.ext hE1);replace hX:=hX.trans hE1;clear hE1;go_wp2_with fail;refine (hG.out _ (HL.out.ext hX)).mono ?_;rintro e w1 ⟨rfl,hE1⟩;replace HO:=hid (HO.out.ext hE1);replace hX:=hX.trans hE1;clear hE1;obtain ⟨q0,q1,f0,f1,r0,r1,hF⟩:=Qj hX (Nat.le_refl _) HO.out (I x) (I y);have Hres:=hid (show YJ w (.agg #[I x,I y]) (.returned (.agg #[I x,I y])) _ from ⟨rfl,hF.out⟩);go_wp2_with fail;refine bodyPost_ret (v := .agg #[I x,I y]) (by simp [results,Tryz.results39,go_sem,r0,r1]) rfl Hres.out
  ·rw [decide_eq_false (by omega)] at h1;clear hg1 E1
   go_enter Tryz.func39,Tryz.ntmps39
   go_wp2_with fail;refine (hs.out _).mono ?_;rintro e w1 ⟨rfl,hE1⟩;replace HO:=hid (HO.out.ext hE1);replace hX:=hX.trans hE1;clear hE1;go_wp2_with fail;refine (hN1.out _).mono ?_;rintro e w1 ⟨rfl,hE1⟩;replace HO:=hid (HO.out.ext hE1);replace hX:=hX.trans hE1;clear hE1;go_wp2_with fail;refine (hN2.out _).mono ?_;rintro e w1 ⟨rfl,hE1⟩;replace HO:=hid (HO.out.ext hE1);replace hX:=hX.trans hE1;clear hE1;go_wp2_with fail;refine (hG.out _ (HL.out.ext hX)).mono ?_;rintro e w1 ⟨rfl,hE1⟩;replace HO:=hid (HO.out.ext hE1);replace hX:=hX.trans hE1;clear hE1;go_wp2_with fail;refine (hD1.out _ (HL.out.ext hX)).mono ?_;rintro e w1 ⟨rfl,hE1⟩;replace HO:=hid (HO.out.ext hE1);replace hX:=hX.trans hE1;clear hE1;go_wp2_with fail;refine (hD2.out _ (HL.out.ext hX)).mono ?_;rintro e w1 ⟨rfl,hE1⟩;replace HO:=hid (HO.out.ext hE1);replace hX:=hX.trans hE1;clear hE1;obtain ⟨q0,q1,f0,f1,r0,r1,hF⟩:=Qj hX (Nat.le_refl _) HO.out (I x) (I y);have Hres:=hid (show YJ w (.agg #[I x,I y]) (.returned (.agg #[I x,I y])) _ from ⟨rfl,hF.out⟩);go_wp2_with fail;refine bodyPost_ret (v := .agg #[I x,I y]) (by simp [results,Tryz.results39,go_sem,r0,r1]) rfl Hres.out
 ·have hsg:d.sign=1:=Int.sign_eq_one_of_pos (by omega);have en:n=n':=by rw [Hn'.out,if_neg hneg]
  have ed:d=d':=by rw [Hd'.out];omega
  rw [hsg] at hs;clear Hn' Hd' h0;subst en;subst ed;clear hsg hneg hN1 hN2
  by_cases hg1:g=1
  ·rw [decide_eq_true (by omega)] at h1;obtain ⟨rfl,rfl⟩:=E1.out hg1;clear hg1 E1
   go_enter Tryz.func39,Tryz.ntmps39
   go_wp2_with fail;refine (hs.out _).mono ?_;rintro e w1 ⟨rfl,hE1⟩;replace HO:=hid (HO.out.ext hE1);replace hX:=hX.trans hE1;clear hE1;go_wp2_with fail;refine (hG.out _ (HL.out.ext hX)).mono ?_;rintro e w1 ⟨rfl,hE1⟩;replace HO:=hid (HO.out.ext hE1);replace hX:=hX.trans hE1;clear hE1;obtain ⟨q0,q1,f0,f1,r0,r1,hF⟩:=Qj hX (Nat.le_refl _) HO.out (I x) (I y);have Hres:=hid (show YJ w (.agg #[I x,I y]) (.returned (.agg #[I x,I y])) _ from ⟨rfl,hF.out⟩);go_wp2_with fail;refine bodyPost_ret (v := .agg #[I x,I y]) (by simp [results,Tryz.results39,go_sem,r0,r1]) rfl Hres.out
  ·rw [decide_eq_false (by omega)] at h1;clear hg1 E1
   go_enter Tryz.func39,Tryz.ntmps39
   go_wp2_with fail;refine (hs.out _).mono ?_;rintro e w1 ⟨rfl,hE1⟩;replace HO:=hid (HO.out.ext hE1);replace hX:=hX.trans hE1;clear hE1;go_wp2_with fail;refine (hG.out _ (HL.out.ext hX)).mono ?_;rintro e w1 ⟨rfl,hE1⟩;replace HO:=hid (HO.out.ext hE1);replace hX:=hX.trans hE1;clear hE1;go_wp2_with fail;refine (hD1.out _ (HL.out.ext hX)).mono ?_;rintro e w1 ⟨rfl,hE1⟩;replace HO:=hid (HO.out.ext hE1);replace hX:=hX.trans hE1;clear hE1;go_wp2_with fail;refine (hD2.out _ (HL.out.ext hX)).mono ?_;rintro e w1 ⟨rfl,hE1⟩;replace HO:=hid (HO.out.ext hE1);replace hX:=hX.trans hE1;clear hE1;obtain ⟨q0,q1,f0,f1,r0,r1,hF⟩:=Qj hX (Nat.le_refl _) HO.out (I x) (I y);have Hres:=hid (show YJ w (.agg #[I x,I y]) (.returned (.agg #[I x,I y])) _ from ⟨rfl,hF.out⟩);go_wp2_with fail;refine bodyPost_ret (v := .agg #[I x,I y]) (by simp [results,Tryz.results39,go_sem,r0,r1]) rfl Hres.out
theorem Kg8 {n d:Int} (hn:nd n<LIM) (hd:nd d<LIM) (h0:d≠0) {w:World} (hL:Laid w) :
  Calls Tryz.prog 21 #[I n,I d] w λe w'=>e = .returned (.tuple #[.agg #[I (qn n d),I (qd n d)],.int .i64 0])/\Ext w w':=by
 have HL:=hid hL;have hs:=hid (ZJ d);have hl:=hid (λw hL=>Yy (w:=w) hn hd h0 hL);have hsg:(d.sign==0)=false:=beq_eq_false_iff_ne.2 (λh=>h0 (Int.sign_eq_zero_iff_zero.1 h));generalize d.sign=sg at *;generalize qn n d=x at *;generalize qd n d=y at *;have HO:=hid (Qq w 47 (.string ⟨#[]⟩) (.string ⟨#[]⟩));have hX:Ext w (w.alloc (.cells #[.string ⟨#[]⟩,.string ⟨#[]⟩] 47)):=(Ext.refl w).alloc _;clear hn hd h0 hL
 go_enter Tryz.func21,Tryz.ntmps21
 go_wp2_with fail;refine (hs.out _).mono ?_;rintro e w1 ⟨rfl,hE1⟩;replace HO:=hid (HO.out.ext hE1);replace hX:=hX.trans hE1;go_wp2_with fail;refine (hl.out _ (HL.out.ext hX)).mono ?_;rintro e w2 ⟨rfl,hE2⟩;replace HO:=hid (HO.out.ext hE2);replace hX:=hX.trans hE2;obtain ⟨q0,q1,f0,f1,r0,r1,hF⟩:=Qj hX (Nat.le_refl _) HO.out (I x) (I y);have Hres:=hid (show YJ w (.tuple #[.agg #[I x,I y],.int .i64 0]) (.returned (.tuple #[.agg #[I x,I y],.int .i64 0])) _ from ⟨rfl,hF.out⟩);go_wp2_with fail;refine bodyPost_ret (v := .tuple #[.agg #[I x,I y],.int .i64 0]) (by simp [results,Tryz.results21,go_sem,r0,r1]) rfl Hres.out
theorem Kc8 {n d:Int} (hn : -9223372036854775808<=n/\n<=9223372036854775807) (hd : -9223372036854775808<=d/\d<=9223372036854775807) (h0:d≠0) {w:World} (hL:Laid w) :
  Calls Tryz.prog 8 #[.int .i64 n,.int .i64 d] w λe w'=>e = .returned (.tuple #[.agg #[I (qn n d),I (qd n d)],.int .i64 0])/\Ext w w':=by
 have HL:=hid hL;have h1:=hid (λw hL=>Qb (w:=w) hn.1 hn.2 hL);have h2:=hid (λw hL=>Qb (w:=w) hd.1 hd.2 hL);have hl:=hid (λw hL=>Kg8 (n:=n) (d:=d) (w:=w) (by have:=KP (u:=n.natAbs) (k:=20) (by omega) (by omega);show Lib.nDigits _<LIM;unfold LIM;omega) (by have:=KP (u:=d.natAbs) (k:=20) (by omega) (by omega);show Lib.nDigits _<LIM;unfold LIM;omega) h0 hL);generalize qn n d=x at *;generalize qd n d=y at *;have HO:=hid (Qq w 47 (.string ⟨#[]⟩) (.string ⟨#[]⟩));have hX:Ext w (w.alloc (.cells #[.string ⟨#[]⟩,.string ⟨#[]⟩] 47)):=(Ext.refl w).alloc _;clear hn hd h0 hL
 go_enter Tryz.func8,Tryz.ntmps8
 go_wp2_with fail;refine (h1.out _ (HL.out.ext hX)).mono ?_;rintro e w1 ⟨rfl,hE1⟩;replace HO:=hid (HO.out.ext hE1);replace hX:=hX.trans hE1;go_wp2_with fail;refine (h2.out _ (HL.out.ext hX)).mono ?_;rintro e w2 ⟨rfl,hE2⟩;replace HO:=hid (HO.out.ext hE2);replace hX:=hX.trans hE2;go_wp2_with fail;refine (hl.out _ (HL.out.ext hX)).mono ?_;rintro e w3 ⟨rfl,hE3⟩;replace HO:=hid (HO.out.ext hE3);replace hX:=hX.trans hE3;obtain ⟨q0,q1,f0,f1,r0,r1,hF⟩:=Qj hX (Nat.le_refl _) HO.out (I x) (I y);have Hres:=hid (show YJ w (.tuple #[.agg #[I x,I y],.int .i64 0]) (.returned (.tuple #[.agg #[I x,I y],.int .i64 0])) _ from ⟨rfl,hF.out⟩);go_wp2_with fail;refine bodyPost_ret (v := .tuple #[.agg #[I x,I y],.int .i64 0]) (by simp [results,Tryz.results8,go_sem,r0,r1]) rfl Hres.out
end
end Go.Proofs.YtdmaofimeknkbaaGreatDoor
