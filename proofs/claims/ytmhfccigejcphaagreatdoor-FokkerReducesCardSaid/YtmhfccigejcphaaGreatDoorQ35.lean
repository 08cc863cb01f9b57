/- Part 35 of the proof of the claim: contracts of the functions that it reaches, and plain laws; no condition. -/
import Derived.Test.YtmhfccigejcphaaGreatDoorQ34
import Derived.Test.YtmhfccigejcphaaGreatDoorQ12
set_option maxRecDepth 100000
set_option maxHeartbeats 20000000
namespace Go.Proofs.YtmhfccigejcphaaGreatDoor
section
open Go.RowKit Go.Sort
open Lib (hid)
theorem Kfc {B B':Nat} {w:World} {g cap gx cx:Nat} {xs ys:List Value} (h:Kd 58 B w g cap xs) (h':Kd 84 B' w gx cx ys):gx≠g:=by
 intro e;exact KdN (u:=slv gx ys.length cx) (v:=slv g xs.length cap) h' h (by decide) (g:=gx) rfl (by rw [e];rfl)
structure RqM (B g cap n b5:Nat) (F:Mq) (ad:List (Nat×Nat)) (lv:Value) (ld:List Int) (det:Rat) (w:World):Prop where
 rect:QD n F
 grid:QgX B w (slv g F.length cap) F ad
 lead:KH B w lv ld
 det:Kd 84 B w b5 2 [I det.num,I det.den]
 low : ∀p∈ad,p.1<b5
section
variable {B g cap n b5:Nat} {F:Mq} {ad:List (Nat×Nat)} {lv:Value} {ld:List Int} {det:Rat} {w w' w0:World}
theorem RqM.ext (h:RqM B g cap n b5 F ad lv ld det w) (he:Ext w w'):RqM B g cap n b5 F ad lv ld det w':=⟨h.rect,h.grid.ext he,h.lead.ext he,h.det.ext he,h.low⟩
theorem YD {i:Nat} {p:Nat×Nat} (h:ad[i]? = some p):p∈ad:=by
 obtain ⟨h1,rfl⟩:=List.getElem?_eq_some_iff.1 h;exact List.getElem_mem h1
theorem RqM.box (h:RqM B g cap n b5 F ad lv ld det w) (hE:Ext w0 w) (hb:w0.heap.size<=b5) (r:Rat) :
  Hid (RqM B g cap n b5 F ad lv ld r ((w.setCell ⟨b5,0,none⟩ (I r.num)).setCell ⟨b5,1,none⟩ (I r.den)))/\Ext w0 ((w.setCell ⟨b5,0,none⟩ (I r.num)).setCell ⟨b5,1,none⟩ (I r.den)):=by
 obtain ⟨h1,h2,h3⟩:=Zy h.det hE hb (I r.num) (I r.den);refine ⟨hid ⟨h.rect,h.grid.keep (R:=(· = b5)) (Chg.of_grown h3 rfl) (λe=>Kfc h.grid.outer h.det e.symm) (λi a _ _ e => ?_),KB h.lead h.det (by decide) h3,h1,h.low⟩,h2⟩;have:=h.low _ (List.getElem_mem a);omega
theorem RqM.el (h:RqM B g cap n b5 F ad lv ld det w) {i j:Nat} (hi:i<F.length) (hj:j<n) :
  ∃gx cx,ad[i]? = some (gx,cx)/\w.cell? ⟨g,i,none⟩=some (slv gx n cx)/\w.cell? ⟨gx,j*2,none⟩=some (I (qa F i j).num)/\w.cell? ⟨gx,j*2+1,none⟩=some (I (qa F i j).den)/\gx≠g/\gx<b5:=by
 obtain ⟨gx,cx,h1,h2,h3,h4,h5⟩:=h.grid.el h.rect hi hj;exact ⟨gx,cx,h1,h2,h3,h4,h5,h.low _ (YD h1)⟩
theorem RqM.room (h:RqM B g cap n b5 F ad lv ld det w) (hn:0<n) {i gx cx:Nat} (hi:i<F.length) (ha:ad[i]? = some (gx,cx)):n<=cx:=by
 obtain ⟨_,_,k1,_,hO,_,hl⟩:=h.grid.at h.rect hn hi;rw [ha] at k1;injection k1 with k1
 injection k1 with q1 q2
 subst q1 q2;have:=hO.cap;omega
theorem RqM.put (h:RqM B g cap n b5 F ad lv ld det w) {i j:Nat} (hi:i<F.length) (hj:j<n) {gx cx:Nat} (ha:ad[i]? = some (gx,cx)) (r:Rat) :
  w.frozen? ⟨gx,j*2,none⟩=false/\w.frozen? ⟨gx,j*2+1,none⟩=false /\
   Hid (RqM B g cap n b5 (F.set i ((F.getD i []).set j r)) ad lv ld det ((w.setCell ⟨gx,j*2,none⟩ (I r.num)).setCell ⟨gx,j*2+1,none⟩ (I r.den))) /\
   Hid (w.grownBy ((w.setCell ⟨gx,j*2,none⟩ (I r.num)).setCell ⟨gx,j*2+1,none⟩ (I r.den)) (some gx))/\B<=gx/\gx<b5:=by
 obtain ⟨f0,f1,h1,h2,h3⟩:=h.grid.put h.rect hi hj ha r;have hlt:=h.low _ (YD ha);obtain ⟨gx',cx',k1,_,hO,_,_⟩:=h.grid.at h.rect (by omega) hi;rw [ha] at k1;injection k1 with k1
 injection k1 with q1 q2
 subst q1 q2;refine ⟨f0,f1,hid ⟨Y0 h.rect (by rw [List.length_set,Qi h.rect hi]),?_,KB h.lead hO (by decide) h2.out,h.det.other h2.out (λe=>by simp at hlt;omega),h.low⟩,h2,h3,hlt⟩;rw [List.length_set];exact h1.out
theorem RqM.app {lv':Value} {ld':List Int} (h:RqM B g cap n b5 F ad lv ld det w) (hG:w.grownBy w' lv.ownBlock) (hl:KH B w' lv' ld'):RqM B g cap n b5 F ad lv' ld' det w':=by
 refine ⟨h.rect,⟨h.grid.len,KB h.grid.own h.lead (by decide) hG,λi a b c => ?_,h.grid.dis⟩,hl,KB h.det h.lead (by decide) hG,h.low⟩;exact KB (h.grid.row i a b c) h.lead (by decide) hG
theorem KhE {α:Type} {l:List α} {d:α} {i j:Nat} (hi:i<l.length) (hj:j<l.length) {y:α} (h:y∈sw2 l d i j):y∈l:=by
 obtain ⟨t,ht,rfl⟩:=List.getElem_of_mem h;rw [KP l d hi hj ht];exact List.getElem_mem _
theorem RqM.swap (h:RqM B g cap n b5 F ad lv ld det w) (hn:0<n) {i j gi ci gj cj:Nat} (hi:i<F.length) (hj:j<F.length) (hai:ad[i]? = some (gi,ci)) (haj:ad[j]? = some (gj,cj)) :
  Hid (RqM B g cap n b5 (sw2 F [] i j) (sw2 ad (0,0) i j) lv ld det ((w.setCell ⟨g,i,none⟩ (slv gj n cj)).setCell ⟨g,j,none⟩ (slv gi n ci))) /\
   w.grownBy ((w.setCell ⟨g,i,none⟩ (slv gj n cj)).setCell ⟨g,j,none⟩ (slv gi n ci)) (some g)/\w.frozen? ⟨g,i,none⟩=false/\w.frozen? ⟨g,j,none⟩=false/\B<=g:=by
 obtain ⟨h1,h2,h3⟩:=h.grid.swapped h.rect hn hi hj hai haj;have hO:=h.grid.outer;refine ⟨hid ⟨h3,by rw [Qj];exact h1,KB h.lead hO (by decide) h2,h.det.other h2 (λe=>Kfc hO h.det e),λp hp=>h.low p (KhE (by rw [h.grid.len];exact hi) (by rw [h.grid.len];exact hj) hp)⟩,h2,hO.frozen _,hO.frozen _,hO.lt.1⟩
end
theorem KiB {a:Rat} (ha:SmQ a) (w:World):Calls Tryz.prog 122 #[RV a] w λe w'=>e = .returned (RV (-a))/\Ext w w':=by
 have h:=KgP (a:=a.num) (b:=a.den) (by have:=ha.1;unfold LIM;omega) w;rw [<-Rat.neg_num] at h;have e:(-a).den=a.den:=Rat.neg_den a;rw [<-e] at h;exact h
theorem Kbp (F:Mq) (k:Nat):F.set k (F.getD k [])=F:=by
 refine List.ext_getElem (by simp) λt h1 h2 => ?_
 rw [List.getElem_set];split
 ·rename_i e;subst e;rw [List.getD_eq_getElem?_getD,List.getElem?_eq_getElem h2];rfl
 ·rfl
theorem KjJ {F:Mq} {i j c:Nat} (hi:i<F.length) (hj:j<F.length):qa (sw2 F [] i j) i c=qa F j c:=by
 unfold qa;rw [Xd F [] hi hj];split
 ·rename_i e;subst e;rfl
 ·rw [if_pos rfl]
end
section
open Go Go.Sort
section
variable {P:Program} {ops:Array Oper} {md:Region.Mode} {Q:Exit->Act->World->Prop} {S:World->Prop}
def Xq (P:Program) (md:Region.Mode) (ops:Array Oper) (Q:Exit->Act->World->Prop) (S:World->Prop) (st:Nat):Nat->Array Bool->Act->World->Prop
 | 0,listed,a,w=>Region.ready md ops listed=[]/\Q .normal a w
 | f+1,listed,a,w=>(Region.ready md ops listed=[]->Q .normal a w) /\ ∀i∈Region.ready md ops listed,wpOp P ops Q i (λa' w'=>((listed.setIfInBounds i true).getD st true=false->S w')/\Xq P md ops Q S st f (listed.setIfInBounds i true) a' w') a w
theorem KfA {st:Nat} : ∀(fuel:Nat) (listed:Array Bool) (a:Act) (w:World),Xq P md ops Q S st fuel listed a w->wpAny P md ops Q fuel listed a w
 | 0,_,_,_,h=>h
 | fuel+1,_,_,_,h=>⟨h.1,λi hi=>wpOp_mono (λa' w' h'=>KfA fuel _ a' w' h'.2) (h.2 i hi)⟩
theorem Kgf {i st:Nat} {oi:Oper} {v:Value} (hi:ops[i]? = some oi) (hsel : ∀(j:Nat) (o:Oper) cs b,ops[j]? = some o->o.op ≠ .select cs b)
  (hQ : ∀c a w,Q (.panic c) (a.put oi.dst v) w->Q (.panic c) a w) (hw : ∃os,ops[st]? = some os /\ ∃e∈os.after,Region.binds md e=true/\e.on=i) :
  ∀(fuel:Nat) (listed:Array Bool) (a:Act) (w:World),listed.getD st true=false ->
   (∀j oj,ops[j]? = some oj->j≠i->listed.getD j true=false->(∀e∈oj.after,Region.binds md e=true->e.on≠i)->oi.apart ops oj=true) ->
   i∈Region.ready md ops listed->YieldsIf P ops S oi v a->S w ->
   Xq P md ops Q S st fuel (listed.setIfInBounds i true) (a.put oi.dst v) w->Xq P md ops Q S st (fuel+1) listed a w:=by
 obtain ⟨os,hos,es,hes,hbs,hon⟩:=hw;intro fuel
 induction fuel with
 | zero =>
  intro listed a w _ _ hr hy hS H;refine ⟨λh=>(by rw [h] at hr;cases hr),λj hj => ?_⟩
  by_cases hji:j=i
  ·subst hji;exact hy.wpOp hi hS ⟨λ_=>hS,H⟩
  ·have:=ready_mono hj hji;rw [H.1] at this
   cases this
 | succ fuel ih =>
  intro listed a w hst hfree hr hy hS H;refine ⟨λh=>(by rw [h] at hr;cases hr),λj hj => ?_⟩
  by_cases hji:j=i
  ·subst hji;exact hy.wpOp hi hS ⟨λ_=>hS,H⟩
  ·have h1:=H.2 j (ready_mono hj hji);obtain ⟨hjun,oj,hoj,hall⟩:=mem_ready.1 hj
   have hnot : ∀e∈oj.after,Region.binds md e=true->e.on≠i:=λe he hb heq=>by
    have h1:=hall e he hb;have h0:=(mem_ready.1 hr).1;rw [heq] at h1
    rcases Nat.lt_or_ge i listed.size with h' | h'
    ·simp [h'] at h0 h1;rw [h0] at h1;cases h1
    ·simp [Array.getElem?_eq_none h'] at h1
   have hjs:j≠st:=λe=>by
    subst e;rw [hos] at hoj;injection hoj with hoj
    subst hoj;exact hnot es hes hbs hon
   have hst2:(listed.setIfInBounds j true).getD st true=false:=by rw [getD_set_ne true hjs];exact hst
   have h2:=wpOp_putIf hoj (hfree j oj hoj hji hjun hnot) (λcs b=>hsel i oi cs b hi) (λcs b=>hsel j oj cs b hoj) hQ hy h1
   have hfree' : ∀k ok,ops[k]? = some ok->k≠i->(listed.setIfInBounds j true).getD k true=false ->
     (∀e∈ok.after,Region.binds md e=true->e.on≠i)->oi.apart ops ok=true:=λk ok hk hki hun hno=>by
    refine hfree k ok hk hki ?_ hno
    by_cases hjk:j=k
    ·subst hjk;exact hjun
    ·rw [getD_set_ne true hjk] at hun;exact hun
   refine wpOp_mono (λa' w' h3 => ?_) h2
   have h4:((listed.setIfInBounds i true).setIfInBounds j true).getD st true=false:=by
    rw [Array.setIfInBounds_comm _ _ (Ne.symm hji)]
    by_cases his:i=st
    ·exfalso;subst his;rw [hi] at hos;injection hos with hos
     have:=(mem_ready.1 hr).2;obtain ⟨o2,ho2,hal⟩:=this;rw [hi] at ho2;injection ho2 with ho2
     subst ho2 hos;have h5:=hal es hes hbs;rw [hon] at h5;have h0:=(mem_ready.1 hr).1
     rcases Nat.lt_or_ge i listed.size with h' | h'
     ·simp [h'] at h0 h5;rw [h0] at h5;cases h5
     ·simp [Array.getElem?_eq_none h'] at h5
    ·rw [getD_set_ne true his];exact hst2
   have hS':=h3.2.1 h4;refine ⟨λ_=>hS',ih (listed.setIfInBounds j true) a' w' hst2 hfree' (ready_mono hr (Ne.symm hji)) h3.1 hS' ?_⟩;rw [Array.setIfInBounds_comm _ _ hji];exact h3.2.2
theorem Kc {st i f:Nat} {oi:Oper} {v:Value} {listed:Array Bool} {a:Act} {w:World} (hi:ops[i]? = some oi)
  (hB:(Region.noSelect ops&&Region.waitsFor md ops st i && !(listed.getD st true)&&Region.free md ops listed i&&(Region.ready md ops listed).contains i)=true)
  (hQ : ∀c a w,Q (.panic c) (a.put oi.dst v) w->Q (.panic c) a w) (hy:YieldsIf P ops S oi v a) (hS:S w)
  (h:Xq P md ops Q S st f (listed.setIfInBounds i true) (a.put oi.dst v) w):Xq P md ops Q S st (f+1) listed a w:=by
 simp only [Bool.and_eq_true,Bool.not_eq_true'] at hB;obtain ⟨⟨⟨⟨hsel,hwt⟩,hst⟩,hf⟩,hr⟩:=hB;refine Kgf hi (Region.noSelect_spec hsel) hQ ?_ f listed a w hst (Region.free_spec hi hf) (by simpa using hr) hy hS h;unfold Region.waitsFor at hwt;split at hwt
 ·rename_i os hos
  obtain ⟨e,he,hb⟩:=Array.any_eq_true'.1 hwt;simp only [Bool.and_eq_true,beq_iff_eq] at hb;exact ⟨os,hos,e,he,hb.1,hb.2⟩
 ·cases hwt
theorem K6 {st i f:Nat} {o:Oper} {listed:Array Bool} {a:Act} {w:World} (ho:ops[i]? = some o) (hr:(Region.ready md ops listed==[i])=true)
  (h : ∀K':Act->World->Prop,(∀a w,((listed.setIfInBounds i true).getD st true=false->S w)->Xq P md ops Q S st f (listed.setIfInBounds i true) a w->K' a w)->if Region.wanted o (yielded ops a.tmps)=true then Oper.wp P o a w K' Q else K' (a.put o.dst undef) w):Xq P md ops Q S st (f+1) listed a w:=by
 have hr:Region.ready md ops listed=[i]:=by simpa using hr
 refine ⟨λh0=>(by rw [h0] at hr;cases hr),λj hj => ?_⟩;rw [hr] at hj;obtain rfl:j=i:=by simpa using hj
 exact wpOp_step ho (λK' hK=>h K' (λa w hS hW=>hK a w ⟨hS,hW⟩))
theorem Keu {st i j f:Nat} {o p:Oper} {listed:Array Bool} {a:Act} {w:World} (hi:ops[i]? = some o) (hj:ops[j]? = some p) (hr:(Region.ready md ops listed==[i,j])=true)
  (h1 : ∀K':Act->World->Prop,(∀a w,((listed.setIfInBounds i true).getD st true=false->S w)->Xq P md ops Q S st f (listed.setIfInBounds i true) a w->K' a w)->if Region.wanted o (yielded ops a.tmps)=true then Oper.wp P o a w K' Q else K' (a.put o.dst undef) w)
  (h2 : ∀K':Act->World->Prop,(∀a w,((listed.setIfInBounds j true).getD st true=false->S w)->Xq P md ops Q S st f (listed.setIfInBounds j true) a w->K' a w)->if Region.wanted p (yielded ops a.tmps)=true then Oper.wp P p a w K' Q else K' (a.put p.dst undef) w):Xq P md ops Q S st (f+1) listed a w:=by
 have hr:Region.ready md ops listed=[i,j]:=by simpa using hr
 refine ⟨λh0=>(by rw [h0] at hr;cases hr),λk hk => ?_⟩;rw [hr] at hk;simp only [List.mem_cons,List.not_mem_nil,or_false] at hk
 rcases hk with rfl | rfl
 ·exact wpOp_step hi (λK' hK=>h1 K' (λa w hS hW=>hK a w ⟨hS,hW⟩))
 ·exact wpOp_step hj (λK' hK=>h2 K' (λa w hS hW=>hK a w ⟨hS,hW⟩))
theorem Z9 {st f:Nat} {listed:Array Bool} {a:Act} {w:World} (hr:(Region.ready md ops listed).isEmpty=true) (h:Q .normal a w):Xq P md ops Q S st f listed a w:=by
 have hr:Region.ready md ops listed=[]:=by simpa using hr
 cases f with
 | zero=>exact ⟨hr,h⟩
 | succ f=>exact ⟨λ_=>h,by rw [hr];simp⟩
theorem YL {id:Nat} {a:Act} {w:World} {l:List Oper} (st N:Nat) (hm:P.follows .mixedOrders=true) (hN:l.toArray.size=N)
  (h:Xq P .any l.toArray Q S st N (Array.replicate l.toArray.size false) a w.drew):(Code.region id l.toArray true).wp P Q a w :=
 wp_region_any hm (by subst hN;exact KfA _ _ _ _ h)
end
end
end Go.Proofs.YtmhfccigejcphaaGreatDoor
