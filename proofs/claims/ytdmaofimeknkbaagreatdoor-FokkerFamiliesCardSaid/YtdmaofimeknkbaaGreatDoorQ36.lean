/- Part 36 of the proof of the claim: contracts of the functions that it reaches, and plain laws; no condition. -/
import Derived.Test.YtdmaofimeknkbaaGreatDoorQ14
set_option maxRecDepth 100000
set_option maxHeartbeats 20000000
namespace Go.Proofs.YtdmaofimeknkbaaGreatDoor
section
open Go Go.Sort
section
variable {P:Program} {ops:Array Oper} {md:Region.Mode} {Q:Exit->Act->World->Prop} {S:World->Prop}
def Xu (P:Program) (md:Region.Mode) (ops:Array Oper) (Q:Exit->Act->World->Prop) (S:World->Prop) (st:Nat):Nat->Array Bool->Act->World->Prop
 | 0,listed,a,w=>Region.ready md ops listed=[]/\Q .normal a w
 | f+1,listed,a,w=>(Region.ready md ops listed=[]->Q .normal a w) /\ ∀i∈Region.ready md ops listed,wpOp P ops Q i (λa' w'=>((listed.setIfInBounds i true).getD st true=false->S w')/\Xu P md ops Q S st f (listed.setIfInBounds i true) a' w') a w
theorem KfQ {st:Nat} : ∀(fuel:Nat) (listed:Array Bool) (a:Act) (w:World),Xu P md ops Q S st fuel listed a w->wpAny P md ops Q fuel listed a w
 | 0,_,_,_,h=>h
 | fuel+1,_,_,_,h=>⟨h.1,λi hi=>wpOp_mono (λa' w' h'=>KfQ fuel _ a' w' h'.2) (h.2 i hi)⟩
theorem Kgx {i st:Nat} {oi:Oper} {v:Value} (hi:ops[i]? = some oi) (hsel : ∀(j:Nat) (o:Oper) cs b,ops[j]? = some o->o.op ≠ .select cs b)
  (hQ : ∀c a w,Q (.panic c) (a.put oi.dst v) w->Q (.panic c) a w) (hw : ∃os,ops[st]? = some os /\ ∃e∈os.after,Region.binds md e=true/\e.on=i) :
  ∀(fuel:Nat) (listed:Array Bool) (a:Act) (w:World),listed.getD st true=false ->
   (∀j oj,ops[j]? = some oj->j≠i->listed.getD j true=false->(∀e∈oj.after,Region.binds md e=true->e.on≠i)->oi.apart ops oj=true) ->
   i∈Region.ready md ops listed->YieldsIf P ops S oi v a->S w ->
   Xu P md ops Q S st fuel (listed.setIfInBounds i true) (a.put oi.dst v) w->Xu P md ops Q S st (fuel+1) listed a w:=by
 obtain ⟨os,hos,es,hes,hbs,hon⟩:=hw;intro fuel
 induction fuel with
 | zero =>
  intro listed a w _ _ hr hy hS H;refine ⟨λh=>(by rw [h] at hr;cases hr),λj hj => ?_⟩
  by_cases hji:j=i
  ·subst hji;exact hy.wpOp hi hS ⟨λ_=>hS,H⟩
  ·have:=ready_mono hj hji;rw [H.1] at this
   cases this
 | succ fuel ih =>
  intro listed a w hst hfree hr hy hS H;refine ⟨λh=>(by rw [h] at hr;cases hr),λj hj => ?_⟩
  by_cases hji:j=i
  ·subst hji;exact hy.wpOp hi hS ⟨λ_=>hS,H⟩
  ·have h1:=H.2 j (ready_mono hj hji);obtain ⟨hjun,oj,hoj,hall⟩:=mem_ready.1 hj
   have hnot : ∀e∈oj.after,Region.binds md e=true->e.on≠i:=λe he hb heq=>by
    have h1:=hall e he hb;have h0:=(mem_ready.1 hr).1;rw [heq] at h1
    rcases Nat.lt_or_ge i listed.size with h' | h'
    ·simp [h'] at h0 h1;rw [h0] at h1;cases h1
    ·simp [Array.getElem?_eq_none h'] at h1
   have hjs:j≠st:=λe=>by
    subst e;rw [hos] at hoj;injection hoj with hoj
    subst hoj;exact hnot es hes hbs hon
   have hst2:(listed.setIfInBounds j true).getD st true=false:=by rw [getD_set_ne true hjs];exact hst
   have h2:=wpOp_putIf hoj (hfree j oj hoj hji hjun hnot) (λcs b=>hsel i oi cs b hi) (λcs b=>hsel j oj cs b hoj) hQ hy h1
   have hfree' : ∀k ok,ops[k]? = some ok->k≠i->(listed.setIfInBounds j true).getD k true=false ->
     (∀e∈ok.after,Region.binds md e=true->e.on≠i)->oi.apart ops ok=true:=λk ok hk hki hun hno=>by
    refine hfree k ok hk hki ?_ hno
    by_cases hjk:j=k
    ·subst hjk;exact hjun
    ·rw [getD_set_ne true hjk] at hun;exact hun
   refine wpOp_mono (λa' w' h3 => ?_) h2
   have h4:((listed.setIfInBounds i true).setIfInBounds j true).getD st true=false:=by
    rw [Array.setIfInBounds_comm _ _ (Ne.symm hji)]
    by_cases his:i=st
    ·exfalso;subst his;rw [hi] at hos;injection hos with hos
     have:=(mem_ready.1 hr).2;obtain ⟨o2,ho2,hal⟩:=this;rw [hi] at ho2;injection ho2 with ho2
     subst ho2 hos;have h5:=hal es hes hbs;rw [hon] at h5;have h0:=(mem_ready.1 hr).1
     rcases Nat.lt_or_ge i listed.size with h' | h'
     ·simp [h'] at h0 h5;rw [h0] at h5;cases h5
     ·simp [Array.getElem?_eq_none h'] at h5
    ·rw [getD_set_ne true his];exact hst2
   have hS':=h3.2.1 h4;refine ⟨λ_=>hS',ih (listed.setIfInBounds j true) a' w' hst2 hfree' (ready_mono hr (Ne.symm hji)) h3.1 hS' ?_⟩;rw [Array.setIfInBounds_comm _ _ hji];exact h3.2.2
theorem Kc {st i f:Nat} {oi:Oper} {v:Value} {listed:Array Bool} {a:Act} {w:World} (hi:ops[i]? = some oi)
  (hB:(Region.noSelect ops&&Region.waitsFor md ops st i && !(listed.getD st true)&&Region.free md ops listed i&&(Region.ready md ops listed).contains i)=true)
  (hQ : ∀c a w,Q (.panic c) (a.put oi.dst v) w->Q (.panic c) a w) (hy:YieldsIf P ops S oi v a) (hS:S w)
  (h:Xu P md ops Q S st f (listed.setIfInBounds i true) (a.put oi.dst v) w):Xu P md ops Q S st (f+1) listed a w:=by
 simp only [Bool.and_eq_true,Bool.not_eq_true'] at hB;obtain ⟨⟨⟨⟨hsel,hwt⟩,hst⟩,hf⟩,hr⟩:=hB;refine Kgx hi (Region.noSelect_spec hsel) hQ ?_ f listed a w hst (Region.free_spec hi hf) (by simpa using hr) hy hS h;unfold Region.waitsFor at hwt;split at hwt
 ·rename_i os hos
  obtain ⟨e,he,hb⟩:=Array.any_eq_true'.1 hwt;simp only [Bool.and_eq_true,beq_iff_eq] at hb;exact ⟨os,hos,e,he,hb.1,hb.2⟩
 ·cases hwt
theorem KA {st i f:Nat} {o:Oper} {listed:Array Bool} {a:Act} {w:World} (ho:ops[i]? = some o) (hr:(Region.ready md ops listed==[i])=true)
  (h : ∀K':Act->World->Prop,(∀a w,((listed.setIfInBounds i true).getD st true=false->S w)->Xu P md ops Q S st f (listed.setIfInBounds i true) a w->K' a w)->if Region.wanted o (yielded ops a.tmps)=true then Oper.wp P o a w K' Q else K' (a.put o.dst undef) w):Xu P md ops Q S st (f+1) listed a w:=by
 have hr:Region.ready md ops listed=[i]:=by simpa using hr
 refine ⟨λh0=>(by rw [h0] at hr;cases hr),λj hj => ?_⟩;rw [hr] at hj;obtain rfl:j=i:=by simpa using hj
 exact wpOp_step ho (λK' hK=>h K' (λa w hS hW=>hK a w ⟨hS,hW⟩))
theorem Jz {st i j f:Nat} {o p:Oper} {listed:Array Bool} {a:Act} {w:World} (hi:ops[i]? = some o) (hj:ops[j]? = some p) (hr:(Region.ready md ops listed==[i,j])=true)
  (h1 : ∀K':Act->World->Prop,(∀a w,((listed.setIfInBounds i true).getD st true=false->S w)->Xu P md ops Q S st f (listed.setIfInBounds i true) a w->K' a w)->if Region.wanted o (yielded ops a.tmps)=true then Oper.wp P o a w K' Q else K' (a.put o.dst undef) w)
  (h2 : ∀K':Act->World->Prop,(∀a w,((listed.setIfInBounds j true).getD st true=false->S w)->Xu P md ops Q S st f (listed.setIfInBounds j true) a w->K' a w)->if Region.wanted p (yielded ops a.tmps)=true then Oper.wp P p a w K' Q else K' (a.put p.dst undef) w):Xu P md ops Q S st (f+1) listed a w:=by
 have hr:Region.ready md ops listed=[i,j]:=by simpa using hr
 refine ⟨λh0=>(by rw [h0] at hr;cases hr),λk hk => ?_⟩;rw [hr] at hk;simp only [List.mem_cons,List.not_mem_nil,or_false] at hk
 rcases hk with rfl | rfl
 ·exact wpOp_step hi (λK' hK=>h1 K' (λa w hS hW=>hK a w ⟨hS,hW⟩))
 ·exact wpOp_step hj (λK' hK=>h2 K' (λa w hS hW=>hK a w ⟨hS,hW⟩))
theorem QD {st f:Nat} {listed:Array Bool} {a:Act} {w:World} (hr:(Region.ready md ops listed).isEmpty=true) (h:Q .normal a w):Xu P md ops Q S st f listed a w:=by
 have hr:Region.ready md ops listed=[]:=by simpa using hr
 cases f with
 | zero=>exact ⟨hr,h⟩
 | succ f=>exact ⟨λ_=>h,by rw [hr];simp⟩
theorem Z8 {id:Nat} {a:Act} {w:World} {l:List Oper} (st N:Nat) (hm:P.follows .mixedOrders=true) (hN:l.toArray.size=N)
  (h:Xu P .any l.toArray Q S st N (Array.replicate l.toArray.size false) a w.drew):(Code.region id l.toArray true).wp P Q a w :=
 wp_region_any hm (by subst hN;exact KfQ _ _ _ _ h)
end
end
end Go.Proofs.YtdmaofimeknkbaaGreatDoor
