/- Part 3, beside the shared parts, of the proof of the claim: contracts and plain laws; no condition. -/
import Derived.Test.YtjnpakablgommaaGreatDoorX02
import Derived.BigQuiet
set_option maxRecDepth 100000
namespace Go.Proofs.YtjnpakablgommaaGreatDoor
open Go.RowKit Go.Sort
def GnO (B:Nat) (w:World) (v:Value) (G:List (List Rat)):Prop := ∃ vs,vs.length=G.length∧w.ownsRow B 60 1 v G.length vs ∧ ∀ t (_:t<G.length) (h':t<vs.length),SzV B w vs[t] G[t]
theorem GnO.nil (B:Nat) (w:World):GnO B w (.slice none 0 0) []:=⟨[],rfl,⟨rfl,.inl ⟨rfl,rfl⟩⟩,fun t h=>by simp at h⟩
theorem GnO.ext {B:Nat} {w w':World} {v:Value} {G:List (List Rat)} (h:GnO B w v G) (he:Ext w w'):GnO B w' v G:=by
 obtain ⟨vs,h1,h2,h3⟩:=h
 exact ⟨vs,h1,ownsRow_ext h2 he,fun t a b=>(h3 t a b).ext he⟩
theorem GnO.mono {B B':Nat} {w:World} {v:Value} {G:List (List Rat)} (h:GnO B w v G) (hB:B'≤B):GnO B' w v G:=by
 obtain ⟨vs,h1,h2,h3⟩:=h
 exact ⟨vs,h1,ownsRow_mono h2 hB,fun t a b=>(h3 t a b).mono hB⟩
theorem GnO.read {B:Nat} {w:World} {v:Value} {G:List (List Rat)} (h:GnO B w v G):GnR w v G:=by
 obtain ⟨vs,h1,h2,h3⟩:=h
 have hr : ∀ i (h:i<G.length) (h':i<vs.length),SzR w vs[i] G[i]:=fun i a b=>(h3 i a b).read
 rcases h2.2 with ⟨rfl,h0⟩ | ⟨g,cap,cur,rfl,hb,hg,hn,hm,hs,ht⟩
 ·have:G=[]:=List.eq_nil_of_length_eq_zero h0
  subst this
  have hv:vs=[]:=List.eq_nil_of_length_eq_zero h1
  subst hv
  exact ⟨none,0,0,0,[],rfl,Nat.le_refl _,rfl,Sl.nil _ _ _ _,hr⟩
 ·have ho:OwnV 60 B w g cap vs:=by unfold OwnV; rw [h1]; exact h2
  exact ⟨_,g,0,cap,vs,rfl,hn,h1,ho.sl,hr⟩
theorem GnO.slice {B:Nat} {w:World} {v:Value} {G:List (List Rat)} (h:GnO B w v G) : ∃ a c,v = .slice a G.length c:=by
 obtain ⟨vs,h1,h2,h3⟩:=h
 rcases h2.2 with ⟨rfl,h0⟩ | ⟨g,cap,cur,rfl,_⟩
 ·exact ⟨_,_,by rw [h0]⟩
 ·exact ⟨_,_,rfl⟩
theorem SzV.one {B:Nat} {w:World} {v:Value} {r:List Rat} (h:SzV B w v r):v.oneCell'=true:=by
 rcases h.2 with ⟨rfl,_⟩ | ⟨g,cap,cur,rfl,_⟩ <;> rfl
theorem Tryz.infoSz:(Tryz.prog.info? 60).map (fun i=>(i.zero,i.size,i.bytes))=some (some (.slice none 0 0),1,24):=by kernel_rfl
theorem one_sz {z:Value} (h:z.oneCell'=true) : ∀ u∈[z],u.oneCell'=true:=fun u hu=>by
 simp only [List.mem_cons,List.not_mem_nil,or_false] at hu
 subst hu; exact h
theorem gnO_snoc {B:Nat} {w w':World} {v u:Value} {G:List (List Rat)} {r:List Rat} {vs:List Value} {gn cap:Nat} (h1:vs.length=G.length) (h2:w.ownsRow B 60 1 v G.length vs) (h3 : ∀ t (_:t<G.length) (h':t<vs.length),SzV B w vs[t] G[t]) (hr:SzV B w u r)
  (k1:w'.ownsRow B 60 1 (slv gn (G.length+1) cap) (G.length+1) (vs++[u])) (k2:w.grownBy w' v.ownBlock):GnO B w' (slv gn (G.length+1) cap) (G++[r]):=by
 have hkeep : ∀ {u:Value} {l:List Rat},SzV B w u l→SzV B w' u l:=fun hu=>own_kept hu h2 (by decide) k2
 refine ⟨vs++[u],by simp [h1],by rw [List.length_append]; exact k1,fun t ht ht' => ?_⟩
 rcases Nat.lt_or_ge t G.length with hlt | hge
 ·rw [List.getElem_append_left (by omega),List.getElem_append_left hlt]
  exact hkeep (h3 t hlt (by omega))
 ·have hte:t=G.length:=by simp at ht; omega
  subst hte
  rw [List.getElem_append_right (by omega),List.getElem_append_right (by omega)]
  simp only [h1,Nat.sub_self,List.getElem_cons_zero]
  exact hkeep hr
section
variable {w:World} {ops:Array Oper} {rest:List Oper} {o:Oper} {a:Act} {Q:Exit→Act→World→Prop}
end
section
variable {w:World} {ops:Array Oper} {o:Oper} {a:Act} {K:Act→World→Prop} {Q:Exit→Act→World→Prop} {E:Prop}
theorem app_gn_step (hgd:o.guard=none) (s x:Operand) (t:TypeId) (ht:Tryz.prog.underlying t=some (.slice 60)) (ho:o.op = .call { callee := .builtin .append,args := #[s,x],argTypes := #[t,t] })
  {B:Nat} {v u:Value} {G:List (List Rat)} {r:List Rat} (hs:a.eval s=v) (hown:GnO B w v G) {b:Nat} (hx:a.eval x = .slice (some ⟨b,0,none⟩) 1 1) (hc:w.cell? ⟨b,0,none⟩=some u) (hr:SzV B w u r) (hl:G.length≤1000000000) (hB:B≤w.heap.size)
  (h : ∀ g cap w',GnO B w' (slv g (G.length+1) cap) (G++[r])→Below B w w'→w.grownBy w' v.ownBlock→K (a.put o.dst (slv g (G.length+1) cap)) w'):if Region.wanted o (yielded ops a.tmps)=true then Oper.wp Tryz.prog o a w K Q else E:=by
 obtain ⟨i0,hi,hz0,hz1,hz2⟩:=info_parts Tryz.infoSz
 obtain ⟨vs,h1,h2,h3⟩:=hown
 refine step_append_lies w hgd s x t ho B 60 i0 _ 1 24 ht hi hz0 hz1 hz2 rfl (by omega) v G.length vs hs h2 ⟨b,0,none⟩ 1 1 [u] hx rfl ?_ (one_sz hr.one) (by omega) (by unfold maxLen; omega) (by omega) hB w.heap.size rfl ?_
 ·intro j z hj
  have:j=0:=by have:=(List.getElem?_eq_some_iff.1 hj).1; simp at this; omega
  subst this
  simp only [List.getElem?_cons_zero,Option.some.injEq] at hj
  subst hj
  simpa [Addr.add_lit] using hc
 ·intro g cap w' k1 k2 k3 k4
  exact h g cap w' (gnO_snoc h1 h2 h3 hr k1 k2) (Below.grown (Below.refl _ _) k2 hB (fun q hq=>(World.ownsRow.lt h2 q hq).1)) k2
end
theorem own4 (w:World) (T:TypeId) (a b c d:Value):OwnV T w.heap.size (w.alloc (.cells #[a,b,c,d] T)) w.heap.size 4 [a,b,c,d] :=
 OwnV.of (Nat.le_refl _) Array.getElem?_push_size (by simp) (by unfold maxLen; omega) rfl rfl
theorem set4 {T:TypeId} {g B:Nat} {w0 W:World} {a b c d:Value} (hE:Ext w0 W) (hg:w0.heap.size≤g) (h:OwnV T B W g 4 [a,b,c,d]) (x y z u:Value) :
  OwnV T B ((((W.setCell ⟨g,0,none⟩ x).setCell ⟨g,1,none⟩ y).setCell ⟨g,2,none⟩ z).setCell ⟨g,3,none⟩ u) g 4 [x,y,z,u]∧Ext w0 ((((W.setCell ⟨g,0,none⟩ x).setCell ⟨g,1,none⟩ y).setCell ⟨g,2,none⟩ z).setCell ⟨g,3,none⟩ u)∧W.grownBy ((((W.setCell ⟨g,0,none⟩ x).setCell ⟨g,1,none⟩ y).setCell ⟨g,2,none⟩ z).setCell ⟨g,3,none⟩ u) (some g):=by
 obtain ⟨h1,g1⟩:=h.set 0 x
 obtain ⟨h2,g2⟩:=h1.set 1 y
 obtain ⟨h3,g3⟩:=h2.set 2 z
 obtain ⟨h4,g4⟩:=h3.set 3 u
 have hG:=grown_trans (grown_trans (grown_trans g1 g2) g3) g4
 exact ⟨h4,ext_trans_grown hE hG hg,hG⟩
theorem OwnV.below {T:TypeId} {B K:Nat} {w w':World} {g cap:Nat} {xs:List Value} (h:OwnV T B w g cap xs) (hB:Below K w w') (hg:g<K):OwnV T B w' g cap xs:=by
 obtain ⟨cur,h1,h2,h3,h4,h5,h6⟩:=h.parts
 exact OwnV.of h1 (by rw [hB.block g hg]; exact h2) h3 h4 h5 h6
theorem OwnV.mem {T:TypeId} {B:Nat} {w:World} {g:Nat} {xs:List Value} (h:OwnV T B w g xs.length xs) {j:Nat} {v:Value} (k:w.cell? ⟨g,j,none⟩=some v):v∈xs:=by
 obtain ⟨cur,h1,h2,h3,h4,h5,h6⟩:=h.parts
 have hc:cur.toList=xs:=by rw [← h6,List.take_of_length_le (by rw [Array.length_toList,h5]; exact Nat.le_refl _)]
 have hk:cur[j]? = some v:=by simpa [World.cell?,h2] using k
 rw [← hc]
 exact Array.mem_toList_iff.2 (Array.mem_of_getElem? hk)
theorem nil4 {T:TypeId} {B:Nat} {w:World} {b:Nat} (ho:OwnV T B w b 4 [.slice none 0 0,.slice none 0 0,.slice none 0 0,.slice none 0 0]) {j:Nat} {v:Value} (k:w.cell? ⟨b,j,none⟩=some v):v = .slice none 0 0:=by
 have:=OwnV.mem (xs:=[.slice none 0 0,.slice none 0 0,.slice none 0 0,.slice none 0 0]) ho k
 simpa using this
theorem row_off {T:TypeId} {B:Nat} {w w':World} {b:Nat} {v:Value} {r:List Int} (h:RowR w v r) (ho:OwnV T B w b 4 [.slice none 0 0,.slice none 0 0,.slice none 0 0,.slice none 0 0]) (hG:w.grownBy w' (some b)):RowR w' v r:=by
 obtain ⟨sa,gb,go,cap,e,hc,hS⟩:=h
 refine ⟨sa,gb,go,cap,e,hc,hS.addr,fun i x hx => ?_⟩
 have h0:=hS.cell i x hx
 have hne:gb≠b:=fun hb=>by
  subst hb
  have h2:=nil4 ho h0
  obtain ⟨hi,_⟩:=List.getElem?_eq_some_iff.1 hx
  rw [is_get (by simpa using hi),h2] at hx
  cases hx
 exact grown_frozen_cell hG hne h0
theorem mat_off {T:TypeId} {B:Nat} {w w':World} {b:Nat} {v:Value} {M:Mx} (h:MatR w v M) (hM : ∀ r∈M,0<r.length) (ho:OwnV T B w b 4 [.slice none 0 0,.slice none 0 0,.slice none 0 0,.slice none 0 0]) (hG:w.grownBy w' (some b)):MatR w' v M:=by
 obtain ⟨sa,gb,go,cap,vs,e,hc,hl,hS,hr⟩:=h
 refine ⟨sa,gb,go,cap,vs,e,hc,hl,⟨hS.addr,fun i x hx => ?_⟩,fun i a b'=>row_off (hr i a b') ho hG⟩
 have h0:=hS.cell i x hx
 have hne:gb≠b:=fun hb=>by
  subst hb
  have h2:=nil4 ho h0
  obtain ⟨hi,hx⟩:=List.getElem?_eq_some_iff.1 hx
  have hi2:i<M.length:=by omega
  obtain ⟨_,_,_,_,e2,_,_⟩:=hr i hi2 hi
  rw [hx,h2] at e2
  injection e2 with _ e3 _
  have:=hM _ (List.getElem_mem hi2)
  omega
 exact grown_frozen_cell hG hne h0
theorem GnO.kept {B g:Nat} {w w':World} {v:Value} {G:List (List Rat)} (h:GnO B w v G) (hG:w.grownBy w' (some g)) (hg:g<B):GnO B w' v G:=by
 obtain ⟨vs,h1,h2,h3⟩:=h
 refine ⟨vs,h1,World.ownsRow.kept h2 hG ?_,fun t a b=>(h3 t a b).kept hG hg⟩
 have hl:=World.ownsRow.lt h2
 rcases hv:v.ownBlock with _ | q
 ·exact .inl rfl
 ·refine .inr ?_
  have:=hl q hv
  intro h2
  injection h2 with h2
  omega
def mkG (A B:Nat→Nat→Int) (np k:Nat):List (List Rat):=(List.range k).map fun i=>mk13L (A (i%4)) (B (i%4)) np
@[simp] theorem mkG_length (A B:Nat→Nat→Int) (np k:Nat):(mkG A B np k).length=k:=by simp [mkG]
theorem mkG_snoc (A B:Nat→Nat→Int) (np k:Nat):mkG A B np k++[mk13L (A (k%4)) (B (k%4)) np]=mkG A B np (k+1):=by
 unfold mkG
 rw [List.range_succ,List.map_append]; rfl
theorem mkG_tw {A B:Nat→Nat→Int} {np k:Nat} : ∀ l∈mkG A B np k,l.length=np ∧ ∀ r∈l,Tw 480 r:=fun l hl=>by
 obtain ⟨i,_,rfl⟩:=List.mem_map.1 hl
 refine ⟨by simp,fun r hr => ?_⟩
 obtain ⟨t,_,rfl⟩:=List.mem_map.1 hr
 exact frQ_tw
theorem tw_sh {l:List Rat} (h : ∀ r∈l,Tw 480 r):ShQ l:=fun r hr=>(h r hr).sm (by decide)
theorem cmbF_tw {G:List (List Rat)} {x:List Int} {c k A K:Nat} (hG : ∀ l∈G,∀ r∈l,Tw A r) (hx : ∀ z∈x,z.natAbs≤K):Tw (A*K) (cmbF G (nbL x) c k):=by
 unfold cmbF
 have h1:Tw A ((G.getD k []).getD c 0):=by
  rw [List.getD_eq_getElem?_getD,List.getD_eq_getElem?_getD]
  by_cases h:k<G.length
  ·rw [List.getElem?_eq_getElem h,Option.getD_some]
   by_cases h2:c<G[k].length
   ·rw [List.getElem?_eq_getElem h2,Option.getD_some]; exact hG _ (List.getElem_mem h) _ (List.getElem_mem h2)
   ·rw [List.getElem?_eq_none (by omega)]; exact Tw.zero _
  ·rw [List.getElem?_eq_none (show G.length≤k by omega),Option.getD_none,List.getElem?_nil]; exact Tw.zero _
 have h2 : ∃ z:Int,(nbL x).getD k 0=(z:Rat)∧z.natAbs≤K:=by
  rw [List.getD_eq_getElem?_getD]
  by_cases h:k<x.length
  ·have hk:k<(nbL x).length:=by rw [nbL_length]; exact h
   refine ⟨x[k],?_,hx _ (List.getElem_mem h)⟩
   rw [List.getElem?_eq_getElem hk,Option.getD_some]
   simp [nbL]
  ·rw [List.getElem?_eq_none (by rw [nbL_length]; omega)]
   exact ⟨0,rfl,by simp⟩
 obtain ⟨z,e,hz⟩:=h2
 rw [e]
 exact h1.mulInt hz
theorem cmbQ_tw {G:List (List Rat)} {x:List Int} {n A K:Nat} (hG : ∀ l∈G,∀ r∈l,Tw A r) (hx : ∀ z∈x,z.natAbs≤K) : ∀ r∈cmbQ G (nbL x) n,Tw (G.length*(A*K)) r:=fun r hr=>by
 unfold cmbQ at hr
 obtain ⟨c,_,rfl⟩:=List.mem_map.1 hr
 exact sumR_tw _ fun k _=>cmbF_tw hG hx
theorem Tw.neg {A:Nat} {a:Rat} (h:Tw A a):Tw A (-a):=by
 obtain ⟨m,rfl,h2⟩:=h
 refine ⟨-m,?_,by omega⟩
 rw [Rat.intCast_neg]; grind
theorem Tw.sub {A B:Nat} {a b:Rat} (h:Tw A a) (k:Tw B b):Tw (A+B) (a-b):=by
 rw [show a-b=a + -b by grind]; exact h.add k.neg
theorem Tw.int {K:Nat} {z:Int} (h:z.natAbs≤K):Tw (12*K) (z:Rat):=by
 refine ⟨z*12,?_,by omega⟩
 rw [Rat.intCast_mul]
 have:((12:Int):Rat)=12:=rfl
 grind
theorem big30:(10:Nat)^30=1000000000000000000000000000000:=by decide
end Go.Proofs.YtjnpakablgommaaGreatDoor
namespace Go.Proofs.YtjnpakablgommaaGreatDoor
theorem sumR_add2 (f g h:Nat→Rat) (e : ∀ i,h i=f i+g i) : ∀ k,sumR h k=sumR f k+sumR g k
 | 0=>by simp [sumR]; grind
 | k+1=>by
  rw [sumR,sumR,sumR,sumR_add2 f g h e k,e]
  grind
theorem nbL_getD (l:List Int) (k:Nat):(nbL l).getD k 0=((l.getD k 0:Int):Rat):=by
 unfold nbL
 rw [List.getD_eq_getElem?_getD,List.getD_eq_getElem?_getD,List.getElem?_map]
 cases l[k]? <;> rfl
theorem tuL_get {np:Nat} {M:Mx} {G:List (List Rat)} {x:List Int} {c:Nat} (h:c<(tuL np M G x).length):(tuL np M G x)[c]=sumR (cmbF G (nbL (tmpL M x)) c) G.length:=cmbQ_get (l:=G) (fs:=nbL (tmpL M x)) (n:=np) h
end Go.Proofs.YtjnpakablgommaaGreatDoor
namespace Go.Proofs.YtjnpakablgommaaGreatDoor
open Go.RowKit Go.Sort
theorem lap_sum {x v:List Int} (hx : ∀ z∈x,z.natAbs≤18) (hv : ∀ z∈v,z.natAbs≤1000000) : ∀ k,(sumZ (fun i=>x.getD i 0*v.getD i 0) k).natAbs≤k*18000000
 | 0=>by simp [sumZ]
 | k+1=>by
  have h1:=lap_sum hx hv k
  have h2:(x.getD k 0*v.getD k 0).natAbs≤18000000:=by
   rw [Int.natAbs_mul]
   have a1:(x.getD k 0).natAbs≤18:=by
    rw [List.getD_eq_getElem?_getD]
    rcases Nat.lt_or_ge k x.length with h | h
    ·rw [List.getElem?_eq_getElem h]; exact hx _ (List.getElem_mem h)
    ·rw [List.getElem?_eq_none h]; simp
   have a2:(v.getD k 0).natAbs≤1000000:=by
    rw [List.getD_eq_getElem?_getD]
    rcases Nat.lt_or_ge k v.length with h | h
    ·rw [List.getElem?_eq_getElem h]; exact hv _ (List.getElem_mem h)
    ·rw [List.getElem?_eq_none h]; simp
   exact Nat.le_trans (Nat.mul_le_mul a1 a2) (by decide)
  rw [sumZ]; omega
theorem tuE_small {P:List Int} {C M:Mx} {x:List Int} (h:TmOK P C M) (hl:x.length=P.length) (hx : ∀ z∈x,z.natAbs≤18):tuE P.length M x=0:=by
 unfold tuE
 have h1:mzE P.length x=0:=by
  unfold mzE
  rw [if_pos hl,if_pos]
  unfold mzS
  rw [List.all_eq_true]
  intro z hz
  have:=hx z hz
  simp
  omega
 have h2:smallB (tmpL M x)=true:=by
  rw [smallB_iff]
  intro z hz
  obtain ⟨v,hv,rfl⟩:=List.mem_map.1 hz
  have h3:=lap_sum hx (h.bM v hv) x.length
  have h4:=h.p4
  have h5:x.length*18000000≤4*18000000:=Nat.mul_le_mul_right _ (by omega)
  unfold tmpE
  omega
 rw [if_pos h1,if_pos h2]
set_option maxHeartbeats 4000000 in
theorem eqQ_any {w:World} {va vb:Value} {la lb:List Rat} (ha:SzR w va la) (hb:SzR w vb lb) (hl:la.length≤1000000) :
  Calls Tryz.prog 91 #[va,vb] w fun e w'=>e = .returned (.bool (decide (la=lb)))∧Ext w w':=by
 obtain ⟨sa,ga,oa,ca,rfl,hca,haa,hra⟩:=ha
 obtain ⟨sb,gb,ob,cb,rfl,hcb,hbb,hrb⟩:=hb
 have Haa:=Lib.hid haa
 have Hbb:=Lib.hid hbb
 have Hra:=Lib.hid hra
 have Hrb:=Lib.hid hrb
 have Hno:=Lib.hid (fun (h:la≠lb)=>decide_eq_false h)
 have Hyes:=Lib.hid (fun (hl:la.length=lb.length) (h : ∀ i (h:i<la.length) (h':i<lb.length),la[i]=lb[i])=>decide_eq_true (show la=lb from List.ext_getElem hl h))
 obtain ⟨n,hn⟩ : ∃ n,n=la.length:=⟨_,rfl⟩
 obtain ⟨m,hm⟩ : ∃ m,m=lb.length:=⟨_,rfl⟩
 have Hn:=Lib.hid hn
 have Hm:=Lib.hid hm
 rw [← hn] at hl ⊢
 rw [← hm]
 generalize decide (la=lb)=q at *
 clear haa hbb hra hrb hn hm hca hcb
 by_cases hnm:n=m
 ·subst hnm
  go_enter Tryz.func91,Tryz.ntmps91
  go_wp2_with fail
  go_loopw [13] (fun iv wr => ∃ i:Nat,i≤n∧iv = .int .i64 i∧Hid (∀ t (h:t<la.length) (h':t<lb.length),t<i→la[t]=lb[t])∧Ext w wr) (fun iv _=>n-(intOf iv).toNat)
  case atStart=>exact ⟨0,by omega,by go_num,Lib.hid (fun t _ _ h=>by omega),Ext.refl _⟩
  case round =>
   obtain ⟨i,hi,rfl,HA,hE⟩:=hrel
   generalize wr=X at *
   by_cases hlt:i<n
   ·have hii:(i:Int)<(n:Int):=by omega
    have hia:i<la.length:=by rw [← Hn.out]; exact hlt
    have hib:i<lb.length:=by rw [← Hm.out]; exact hlt
    obtain rfl:=Haa.out (by omega)
    obtain rfl:=Hbb.out (by omega)
    obtain ⟨a0,a1⟩:=Hra.out i hia
    obtain ⟨b0,b1⟩:=Hrb.out i hib
    replace a0:=hE.cell a0
    replace a1:=hE.cell a1
    replace b0:=hE.cell b0
    replace b1:=hE.cell b1
    have Hq:=Lib.hid (fun (h:la[i]≠lb[i])=>Hno.out (fun h2=>h (by simp only [h2])))
    have HA':=Lib.hid (fun (h:la[i]=lb[i]) t (ht:t<la.length) (ht':t<lb.length) (hti:t<i+1)=>show la[t]=lb[t] by
     by_cases e:t=i
     ·subst e; exact h
     ·exact HA.out t ht ht' (by omega))
    obtain ⟨x,hx⟩ : ∃ x,x=la[i]:=⟨_,rfl⟩
    obtain ⟨y,hy⟩ : ∃ y,y=lb[i]:=⟨_,rfl⟩
    rw [← hx] at a0 a1 Hq HA'
    rw [← hy] at b0 b1 Hq HA'
    clear hx hy HA hlt hia hib
    have hqd : ∀ u v:Int,(Lib.itoa u==Lib.itoa v)=decide (u=v):=fun u v=>by
     by_cases h:u=v
     ·subst h; simp
     ·rw [decide_eq_false h,beq_eq_false_iff_ne]; exact fun hc=>h (itoa_inj hc)
    have k1:=hqd x.num y.num
    have k2:=hqd x.den y.den
    by_cases hxy:x=y
    ·subst hxy
     have HA:=Lib.hid (HA'.out rfl)
     clear HA' Hq k1 k2 hqd
     go_wp2_with fail
     go_quiet (fail)
     have hE:=hE.drewN nq
     go_wp2_with fail
     go_roundw
     case rel=>exact ⟨i+1,by omega,by go_num,HA,hE⟩
     case measure=>simp [intOf] <;> omega
    ·have Hq0:=Lib.hid (Hq.out hxy)
     have hd:x.num≠y.num∨(x.num=y.num∧(x.den:Int)≠(y.den:Int)):=by
      by_cases h1:x.num=y.num
      ·exact .inr ⟨h1,fun h2=>hxy (Rat.ext h1 (by omega))⟩
      ·exact .inl h1
     clear HA' Hq hxy hqd
     obtain ⟨la',hla⟩ : ∃ l,l=Lib.itoa x.num:=⟨_,rfl⟩
     obtain ⟨lb',hlb⟩ : ∃ l,l=Lib.itoa y.num:=⟨_,rfl⟩
     obtain ⟨da',hda⟩ : ∃ l,l=Lib.itoa x.den:=⟨_,rfl⟩
     obtain ⟨db',hdb⟩ : ∃ l,l=Lib.itoa y.den:=⟨_,rfl⟩
     unfold I S at a0 a1 b0 b1
     rw [← hla, ← hlb] at k1
     rw [← hda, ← hdb] at k2
     rw [← hla] at a0
     rw [← hda] at a1
     rw [← hlb] at b0
     rw [← hdb] at b1
     rcases hd with hd | ⟨hd,hd2⟩
     ·rw [decide_eq_false hd] at k1
      have k3:(la' != lb')=true:=by simp [bne,k1]
      clear hd k2 hla hlb hda hdb
      go_wp2_with fail
      go_quiet (fail)
      have hE:=hE.drewN nq
      go_wp2_with fail
      go_ret
      exact ⟨ret_val (congrArg Value.bool Hq0.out.symm),hE⟩
     ·rw [decide_eq_false hd2] at k2
      have k3:(da' != db')=true:=by simp [bne,k2]
      rw [decide_eq_true hd] at k1
      obtain rfl:la'=lb':=by simpa using k1
      clear hd k1 hd2 hla hlb hda hdb
      go_wp2_with fail
      go_quiet (fail)
      have hE:=hE.drewN nq
      go_wp2_with fail
      go_ret
      exact ⟨ret_val (congrArg Value.bool Hq0.out.symm),hE⟩
   ·obtain rfl:i=n:=by omega
    have hii : ¬ (i:Int)<(i:Int):=by omega
    have Hq:=Lib.hid (Hyes.out (by rw [← Hn.out, ← Hm.out]) (fun t h h'=>HA.out t h h' (by rw [Hn.out]; exact h)))
    clear hlt HA
    go_wp2_with fail
    go_ret
    exact ⟨ret_val (congrArg Value.bool Hq.out.symm),hE⟩
 ·have h1 : ¬ ((n:Int)=(m:Int)):=by omega
  have h2:((n:Int)==(m:Int))=false:=beq_eq_false_iff_ne.2 h1
  have h3:((n:Int) != (m:Int))=true:=by simp [bne,h2]
  have Hq:=Lib.hid (Hno.out (fun h=>hnm (by rw [Hn.out,Hm.out,h])))
  clear hnm
  go_enter Tryz.func91,Tryz.ntmps91
  go_wp2_with fail
  go_ret
  exact ⟨ret_val (congrArg Value.bool Hq.out.symm),Ext.refl _⟩
set_option maxHeartbeats 1000000 in
theorem rowZero_ok {w:World} {n:Nat} (hn:n≤64) :
  Calls Tryz.prog 145 #[.int .i64 n] w fun e w' => ∃ g,e = .returned (.tuple #[slv g n n,.int .i64 0])∧OwnV 3 w.heap.size w' g n (is (List.replicate n 0))∧Ext w w':=by
 obtain ⟨i0,hi,hz0,hz1,hz2⟩:=info_parts Tryz.infoInt
 have h1 : ¬ (n:Int)<0:=by omega
 have h2 : ¬ (n:Int)>64:=by omega
 have h3 : ¬ (64:Int)<(n:Int):=by omega
 go_enter Tryz.func145,Tryz.ntmps145
 go_wp2_with (at_make; refine wpList_make_full _ rfl _ _ 30 rfl w.heap.size 3 i0 (.int .i64 0) 1 Tryz.underlying30 hi hz0 hz1 .i64 .i64 _ _ n rfl rfl (by omega) (by omega) (by rw [hz2]; omega) (by unfold maxLen; omega) (Nat.le_refl _) ?_; intro w1 hown1 hgrow1)
 have hE1:=ext_grown hgrow1
 have hb0:OwnV 3 w.heap.size w1 w.heap.size n (is (List.replicate n 0)):=row_ownV (zero_row hown1) (by simp)
 have Hb:=Lib.hid hb0
 clear hb0 hown1 hgrow1
 go_wp2_with fail
 go_ret2
 exact ⟨_,rfl,Hb.out,hE1⟩
set_option maxHeartbeats 1000000 in
theorem rowUnit_ok {w:World} {n i:Nat} (hn:n≤64) (hi:i<n) :
  Calls Tryz.prog 90 #[.int .i64 n,.int .i64 i] w fun e w' => ∃ g,e = .returned (.tuple #[slv g n n,.int .i64 0])∧OwnV 3 w.heap.size w' g n (is (unitL n i))∧Ext w w':=by
 have hz:=Lib.hid (rowZero_ok (w:=w) hn)
 have h1 : ¬ (i:Int)<0:=by omega
 have h2 : ¬ (i:Int)≥(n:Int):=by omega
 have h3 : ¬ (n:Int)≤(i:Int):=by omega
 have h4:(i:Int)<(n:Int):=by omega
 go_enter Tryz.func90,Tryz.ntmps90
 go_wp2_with fail
 refine hz.out.mono ?_
 rintro e w1 ⟨g,rfl,hO,hE1⟩
 have hcl:=hO.cell (j:=i) (by simpa using hi)
 have hfz:=hO.frozen i
 obtain ⟨hO2,hG⟩:=hO.set i (.int .i64 1)
 rw [← is_set] at hO2
 have hE2:=ext_trans_grown hE1 hG hO.lt.1
 have Hq:=Lib.hid (And.intro hO2 hE2)
 clear hz hO hO2 hE2 hG
 go_wp2_with fail
 go_ret2
 exact ⟨g,rfl,Hq.out.1,Hq.out.2⟩
theorem sumZ_unit {n:Nat} {v:List Int} (hn:0<n) : ∀ k,k≤n→sumZ (fun i=>(unitL n 0).getD i 0*v.getD i 0) k=if k=0 then 0 else v.getD 0 0
 | 0,_=>rfl
 | k+1,h=>by
  rw [sumZ,sumZ_unit hn k (by omega),unitL_getD hn]
  by_cases h0:k=0
  ·subst h0; simp
  ·rw [if_neg h0,if_neg h0,if_neg (by omega)]; simp
theorem tmp_unit {n:Nat} {M:Mx} (hn:0<n) (hM:SmK M):smallB (tmpL M (unitL n 0))=true:=by
 rw [smallB_iff]
 intro z hz
 obtain ⟨v,hv,rfl⟩:=List.mem_map.1 hz
 have h:=sumZ_unit (v:=v) hn n (Nat.le_refl _)
 rw [if_neg (by omega)] at h
 have e:tmpE (unitL n 0) v=v.getD 0 0:=by
  unfold tmpE; rw [unitL_length]; exact h
 rw [e]
 exact getD_bd9 (hM v hv) 0
theorem unit_mem {n i:Nat} {z:Int} (h:z∈unitL n i):z=0∨z=1:=by
 unfold unitL at h
 rcases List.mem_or_eq_of_mem_set h with h | h
 ·exact .inl (List.mem_replicate.1 h).2
 ·exact .inr h
theorem mz_unit (n i:Nat):mzE n (unitL n i)=0:=by
 unfold mzE
 rw [if_pos (by simp),if_pos]
 unfold mzS
 rw [List.all_eq_true]
 intro z hz
 rcases unit_mem hz with rfl | rfl <;> decide
theorem tu_unit {n:Nat} {M:Mx} (hn:0<n) (hM:SmK M):tuE n M (unitL n 0)=0:=by
 unfold tuE
 rw [if_pos (mz_unit n 0),if_pos (tmp_unit hn hM)]
set_option maxHeartbeats 4000000 in
theorem tuPure_any {w:World} {P:List Int} {C M:Mx} {G:List (List Rat)} {sp:Option Addr} {cp:Nat} {sc:Option Addr} {lc cc:Nat} {sm:Option Addr} {lm cm:Nat} {sg:Option Addr} {lg cg:Nat} (h:TuV w P C M G sp cp sc lc cc sm lm cm sg lg cg) (hL:Laid w) :
  Calls Tryz.prog 32 #[tuS P sp cp sc lc cc sm lm cm sg lg cg] w fun e w'=>e = .returned (.tuple #[.bool (decide (tuL P.length M G (unitL P.length 0)=nbL (unitL P.length 0))),.int .i64 0])∧Ext w w':=by
 have hck:=Lib.hid (fun W (hW:Ext w W)=>tuCheck_any (h.ext hW) (hL.ext hW))
 have hp4:=h.tm.ok.p4
 have hp0:=h.tm.ok.p0
 have h0:=tu_unit hp0 h.tm.ok.sM
 have hun:=Lib.hid (fun W=>rowUnit_ok (w:=W) (n:=P.length) (i:=0) (by omega) hp0)
 have hte:=Lib.hid (fun W g (hW:Ext w W) (hx:RowR W (slv g P.length P.length) (unitL P.length 0))=>tempered_any (h.ext hW) hx (hL.ext hW))
 have hnm:=Lib.hid (fun W g (hW:Ext w W) (hx:RowR W (slv g P.length P.length) (unitL P.length 0))=>numbers_any hx (by rw [unitL_length]; omega) (fun z hz=>by unfold I64; rcases unit_mem hz with rfl | rfl <;> omega) (hL.ext hW))
 have heq:=Lib.hid (fun W va vb (ha:SzR W va (tuL P.length M G (unitL P.length 0))) (hb:SzR W vb (nbL (unitL P.length 0)))=>eqQ_any ha hb (by rw [tuL_length]; omega))
 have H0:=Lib.hid h0
 have Hll:=Lib.hid (tuL_length P.length M G (unitL P.length 0))
 have hX:=(Ext.refl w).alloc (.cells #[.slice sp P.length cp,.slice sc lc cc,.slice sm lm cm,.slice sg lg cg] 67)
 have x0:(w.alloc (.cells #[.slice sp P.length cp,.slice sc lc cc,.slice sm lm cm,.slice sg lg cg] 67)).cell? ⟨w.heap.size,0,none⟩=some (.slice sp P.length cp):=by go_simp
 have x1:(w.alloc (.cells #[.slice sp P.length cp,.slice sc lc cc,.slice sm lm cm,.slice sg lg cg] 67)).cell? ⟨w.heap.size,1,none⟩=some (.slice sc lc cc):=by go_simp
 have x2:(w.alloc (.cells #[.slice sp P.length cp,.slice sc lc cc,.slice sm lm cm,.slice sg lg cg] 67)).cell? ⟨w.heap.size,2,none⟩=some (.slice sm lm cm):=by go_simp
 have x3:(w.alloc (.cells #[.slice sp P.length cp,.slice sc lc cc,.slice sm lm cm,.slice sg lg cg] 67)).cell? ⟨w.heap.size,3,none⟩=some (.slice sg lg cg):=by go_simp
 generalize decide (tuL P.length M G (unitL P.length 0)=nbL (unitL P.length 0))=q at *
 clear h h0 hL
 go_enter Tryz.func32,Tryz.ntmps32
 go_wp2_with fail
 refine (hck.out _ hX).mono ?_
 rintro e X0 ⟨rfl,hE0⟩
 have e0:=hX.trans hE0
 replace x0:=hE0.cell x0
 replace x1:=hE0.cell x1
 replace x2:=hE0.cell x2
 replace x3:=hE0.cell x3
 clear hck hX hE0
 go_wp2_with fail
 refine (hun.out _).mono ?_
 rintro e X1 ⟨g,rfl,hO,hE1⟩
 have e1:=e0.trans hE1
 replace x0:=hE1.cell x0
 replace x1:=hE1.cell x1
 replace x2:=hE1.cell x2
 replace x3:=hE1.cell x3
 have HR:=Lib.hid (show RowR X1 (slv g P.length P.length) (unitL P.length 0) from ⟨_,g,0,P.length,by rw [unitL_length],by rw [unitL_length]; exact Nat.le_refl _,hO.sl⟩)
 clear hun hE1 hO e0
 go_wp2_with fail
 refine (hte.out _ _ e1 HR.out).mono ?_
 rintro e X2 ⟨hE2,(⟨hy,rfl⟩ | ⟨_,g2,rfl,hg2,hO2⟩)⟩
 ·exact absurd H0.out hy
 have e2:=e1.trans hE2
 have HR2:=Lib.hid (HR.out.ext hE2)
 have HS2:=Lib.hid hO2
 clear hte hO2 hE2 x0 x1 x2 x3 hg2
 go_wp2_with fail
 refine (hnm.out _ _ e2 HR2.out).mono ?_
 rintro e X3 ⟨⟨u,rfl,hu⟩,hE3⟩
 have e3:=e2.trans hE3
 have hq:=Lib.hid (heq.out X3 (slv g2 P.length P.length) u (by have:=(HS2.out.ext hE3).val.read; rwa [Hll.out] at this) hu.read)
 obtain ⟨ua,un,uc,rfl⟩:=hu.slice
 clear hnm heq hu hE3
 go_wp2_with fail
 refine hq.out.mono ?_
 rintro e X4 ⟨rfl,hE4⟩
 go_wp2_with fail
 go_ret2
 exact ⟨rfl,e3.trans hE4⟩
end Go.Proofs.YtjnpakablgommaaGreatDoor
namespace Go.Proofs.YtjnpakablgommaaGreatDoor
open Go.RowKit Go.Sort
open Hnf (V Span)
theorem sumR_mul (q:Rat) (f:Nat→Rat) : ∀ n,sumR (fun i=>q*f i) n=q*sumR f n
 | 0=>by show (0:Rat)=q*0; grind
 | n+1=>by rw [sumR,sumR,sumR_mul q f n]; grind
theorem sumR_nil {f:Nat→Rat} : ∀ n,(∀ i,i<n→f i=0)→sumR f n=0
 | 0,_=>rfl
 | n+1,h=>by rw [sumR,sumR_nil n (fun i hi=>h i (by omega)),h n (by omega)]; grind
theorem sumR_swap (f:Nat→Nat→Rat) (m:Nat) : ∀ n,sumR (fun i=>sumR (fun j=>f i j) m) n=sumR (fun j=>sumR (fun i=>f i j) n) m
 | 0=>(sumR_nil m fun _ _=>rfl).symm
 | n+1=>by
  rw [sumR,sumR_swap f m n]
  exact (sumR_add2 (fun j=>sumR (fun i=>f i j) n) (fun j=>f n j) _ (fun j=>rfl) m).symm
theorem sumR_cast (f:Nat→Int) : ∀ n,((sumZ f n:Int):Rat)=sumR (fun i=>((f i:Int):Rat)) n
 | 0=>rfl
 | n+1=>by rw [sumZ,sumR,Rat.intCast_add,sumR_cast f n]
theorem sumR_one {f:Nat→Rat} {k:Nat} : ∀ n,k<n→(∀ i,i<n→i≠k→f i=0)→sumR f n=f k
 | n+1,hk,h=>by
  rw [sumR]
  by_cases e:k=n
  ·subst e
   rw [sumR_nil k (fun i hi=>h i (by omega) (by omega))]; grind
  ·rw [sumR_one n (by omega) (fun i hi h2=>h i (by omega) h2),h n (by omega) (fun e2=>e e2.symm)]; grind
theorem unit_18 (n i:Nat) : ∀ z∈unitL n i,z.natAbs≤18:=fun z hz=>by
 rcases unit_mem hz with rfl | rfl <;> decide
theorem tuE_unit {P:List Int} {C M:Mx} (h:TmOK P C M) (i:Nat):tuE P.length M (unitL P.length i)=0:=tuE_small h (by simp) (unit_18 _ _)
def prZ (n:Nat) (M:Mx) (G:List (List Rat)):List (List Rat):=(List.range n).map fun i=>tuL n M G (unitL n i)
@[simp] theorem prZ_length (n:Nat) (M:Mx) (G:List (List Rat)):(prZ n M G).length=n:=by simp [prZ]
theorem cmbQ_getD {l:List (List Rat)} {fs:List Rat} {n c:Nat} (hc:c<n):(cmbQ l fs n).getD c 0=sumR (cmbF l fs c) l.length:=by
 rw [List.getD_eq_getElem?_getD,List.getElem?_eq_getElem (by simpa using hc),Option.getD_some,cmbQ_get]
theorem cmbF_nb (l:List (List Rat)) (x:List Int) (c k:Nat):cmbF l (nbL x) c k=(l.getD k []).getD c 0*((x.getD k 0:Int):Rat):=by
 unfold cmbF
 rw [nbL_getD]
def frG (n:Nat) (L:List (List Rat)) (S:Mx):List (List Rat):=S.map fun s=>cmbQ L (nbL s) n
@[simp] theorem frG_length (n:Nat) (L:List (List Rat)) (S:Mx):(frG n L S).length=S.length:=by simp [frG]
theorem frG_getD {n:Nat} {L:List (List Rat)} {S:Mx} {i:Nat} (hi:i<S.length):(frG n L S).getD i []=cmbQ L (nbL (S.getD i [])) n:=by
 unfold frG
 rw [List.getD_eq_getElem?_getD,List.getElem?_map,List.getElem?_eq_getElem hi,getD_get hi]; rfl
def lamQ (L:List (List Rat)) (c n:Nat) (y:V):Rat:=sumR (fun k=>(L.getD k []).getD c 0*((y k:Int):Rat)) n
theorem lam_span {L:List (List Rat)} {c n:Nat} {C:Mx} (h : ∀ r∈C,lamQ L c n (vr r)=0) {v:V} (hv:Span (latM C) v):lamQ L c n v=0:=by
 induction hv with
 | zero =>
  refine sumR_nil n fun i _ => ?_
  show _*(0:Rat)=0
  grind
 | @step v r q _ hr ih =>
  obtain ⟨l,hl,rfl⟩:=List.mem_map.1 hr
  have h2:=h l hl
  unfold lamQ at ih h2 ⊢
  have e:sumR (fun k=>(L.getD k []).getD c 0*((Hnf.sub v q (vr l) k:Int):Rat)) n=sumR (fun k=>(L.getD k []).getD c 0*((v k:Int):Rat)) n+sumR (fun k=>(-(q:Rat))*((L.getD k []).getD c 0*((vr l k:Int):Rat))) n:=sumR_add2 _ _ _ (fun k=>by
   show _*((v k-q*vr l k:Int):Rat)=_
   rw [Rat.intCast_sub,Rat.intCast_mul]
   grind) n
  rw [e,sumR_mul,ih,h2]
  grind
theorem cmb_lam {L:List (List Rat)} {x:List Int} {n c:Nat} (hL:L.length=n) (hc:c<n):(cmbQ L (nbL x) n).getD c 0=lamQ L c n (vr x):=by
 rw [cmbQ_getD hc,hL]
 exact sumR_congr n fun k _=>cmbF_nb _ _ _ _
theorem from_back {P:List Int} {C M S:Mx} {L:List (List Rat)} (hT:TmOK P C M) (h:SecOK P.length C M S) (hL:L.length=P.length) (hcl : ∀ l∈L,l.length=P.length) (hz : ∀ r∈C,cmbQ L (nbL r) P.length=List.replicate P.length 0) {i:Nat} (hi:i<P.length):tuL P.length M (frG P.length L S) (unitL P.length i)=L.getD i []:=by
 generalize hn:P.length=n at *
 have hli:(L.getD i []).length=n:=by
  rw [List.getD_eq_getElem?_getD,List.getElem?_eq_getElem (by omega)]
  exact hcl _ (List.getElem_mem _)
 refine List.ext_getElem (by rw [tuL_length,hli]) fun c h1 h2 => ?_
 have hc:c<n:=by simpa using h1
 obtain ⟨f,hf⟩ : ∃ f,f=tmpL M (unitL n i):=⟨_,rfl⟩
 have hfl:f.length=M.length:=by rw [hf]; simp
 obtain ⟨z,hze⟩ : ∃ z:List Int,z=(List.range n).map fun k=>sumZ (fun j=>f.getD j 0*(S.getD j []).getD k 0) M.length:=⟨_,rfl⟩
 have hzl:z.length=n:=by rw [hze]; simp
 have hzg : ∀ k,k<n→z.getD k 0=sumZ (fun j=>f.getD j 0*(S.getD j []).getD k 0) M.length:=fun k hk=>by
  rw [hze,List.getD_eq_getElem?_getD,List.getElem?_eq_getElem (by simpa using hk)]
  simp
 have ht:=sec_sum h hfl hzl hzg
 rw [hf] at ht
 have hsp:=(hT.class_iff (by rw [hn]; exact hzl) (by rw [hn]; simp)).1 ht
 have h0:=lam_span (L:=L) (c:=c) (n:=n) (fun r hr=>by
  have:=hz r hr
  rw [← cmb_lam hL hc,this,List.getD_eq_getElem?_getD,List.getElem?_replicate,if_pos hc]; rfl) hsp
 have e1:lamQ L c n (vr z)=lamQ L c n (vr (unitL n i)):=by
  unfold lamQ at h0 ⊢
  have e:sumR (fun k=>(L.getD k []).getD c 0*((vr z k:Int):Rat)) n=sumR (fun k=>(L.getD k []).getD c 0*((Hnf.sub (vr z) 1 (vr (unitL n i)) k:Int):Rat)) n+sumR (fun k=>(L.getD k []).getD c 0*((vr (unitL n i) k:Int):Rat)) n:=sumR_add2 _ _ _ (fun k=>by
   show _=_*((vr z k-1*vr (unitL n i) k:Int):Rat)+_
   rw [Rat.intCast_sub,Rat.intCast_mul]
   show _=_*(_-(1:Rat)*_)+_
   grind) n
  rw [e,h0]; grind
 have e2:lamQ L c n (vr (unitL n i))=(L.getD i []).getD c 0:=by
  unfold lamQ
  rw [sumR_one (k:=i) n hi (fun k _ hk=>by
   show _*(((unitL n i).getD k 0:Int):Rat)=0
   rw [unitL_getD hi,if_neg hk]
   show _*(0:Rat)=0
   grind)]
  show _*(((unitL n i).getD i 0:Int):Rat)=_
  rw [unitL_getD hi,if_pos rfl]
  show _*(1:Rat)=_
  grind
 rw [tuL_get,frG_length,h.len]
 have e3 : ∀ j,j<M.length→cmbF (frG n L S) (nbL (tmpL M (unitL n i))) c j=sumR (fun k=>(L.getD k []).getD c 0*(((f.getD j 0*(S.getD j []).getD k 0:Int)):Rat)) n:=fun j hj=>by
  rw [cmbF_nb,frG_getD (by rw [h.len]; exact hj),cmb_lam hL hc, ← hf,Rat.mul_comm]
  unfold lamQ
  rw [← sumR_mul]
  refine sumR_congr n fun k _ => ?_
  rw [Rat.intCast_mul]
  show _*(_*(((S.getD j []).getD k 0:Int):Rat))=_
  grind
 rw [sumR_congr _ e3,sumR_swap]
 have e4 : ∀ k,k<n→sumR (fun j=>(L.getD k []).getD c 0*(((f.getD j 0*(S.getD j []).getD k 0:Int)):Rat)) M.length=(L.getD k []).getD c 0*((vr z k:Int):Rat):=fun k hk=>by
  rw [sumR_mul]
  congr 1
  show _=((z.getD k 0:Int):Rat)
  rw [hzg k hk,sumR_cast]
 rw [sumR_congr n e4]
 show lamQ L c n (vr z)=_
 rw [e1,e2,List.getD_eq_getElem?_getD,List.getElem?_eq_getElem h2]; rfl
end Go.Proofs.YtjnpakablgommaaGreatDoor
namespace Go.Proofs.YtjnpakablgommaaGreatDoor
open Go Go.Sort
theorem countP_step {p p':Nat→Bool} {i:Nat} (hp:p i=true) (hp':p' i=false) (h : ∀ j,j≠i→p' j=p j) : ∀ (l:List Nat),l.Nodup→i∈l→l.countP p'+1=l.countP p
 | [],_,hi=>by cases hi
 | x::l,hn,hi=>by
  rw [List.nodup_cons] at hn
  by_cases e:x=i
  ·subst e
   rw [List.countP_cons_of_neg (by rw [hp']; decide),List.countP_cons_of_pos hp]
   have:l.countP p'=l.countP p:=List.countP_congr (fun j hj=>by rw [h j (fun h2=>hn.1 (h2 ▸ hj))])
   omega
  ·have hi2:i∈l:=by rcases List.mem_cons.1 hi with h2 | h2; exact absurd h2.symm e; exact h2
   have ih:=countP_step hp hp' h l hn.2 hi2
   rw [List.countP_cons,List.countP_cons,h x e]
   omega
def unl (n:Nat) (listed:Array Bool):Nat:=(List.range n).countP fun j => !(listed.getD j true)
theorem unl_set {n i:Nat} {listed:Array Bool} (hin:i<n) (hi:listed.getD i true=false):unl n (listed.setIfInBounds i true)+1=unl n listed:=by
 refine countP_step (i:=i) (by rw [hi]; rfl) ?_ (fun j hj=>by rw [getD_set_ne true (Ne.symm hj)]) _ List.nodup_range (List.mem_range.2 hin)
 have hlt:i<listed.size:=by
  rcases Nat.lt_or_ge i listed.size with h | h
  ·exact h
  ·simp [Array.getElem?_eq_none h] at hi
 simp [hlt]
theorem unl_zero {n:Nat} {listed:Array Bool} (h:unl n listed=0) {j:Nat} (hj:j<n):listed.getD j true=true:=by
 have:=List.countP_eq_zero.1 h j (List.mem_range.2 hj)
 simpa using this
theorem unl_all (n m:Nat) (h:n≤m):unl n (Array.replicate m false)=n:=by
 unfold unl
 have:(List.range n).countP (fun j => !((Array.replicate m false).getD j true))=(List.range n).length:=List.countP_eq_length.2 (fun j hj=>by
  have:=List.mem_range.1 hj
  have hlt:j<m:=by omega
  simp [hlt])
 rw [this,List.length_range]
structure Frm (D:Nat→Nat) (n:Nat) (a0 a:Act):Prop where
 size:a.tmps.size=a0.tmps.size
 other : ∀ t,(∀ j,j<n→D j≠t)→a.tmps[t]? = a0.tmps[t]?
 defers:a.defers=a0.defers
theorem Frm.refl (D:Nat→Nat) (n:Nat) (a:Act):Frm D n a a:=⟨rfl,fun _ _=>rfl,rfl⟩
section
variable {P:Program} {ops:Array Oper} {md:Region.Mode} {Q:Exit→Act→World→Prop} {S:World→Prop}
theorem wpAnyLH_inv {n:Nat} {L:Array Bool→Act→World→Prop} {D:Nat→Nat} {G:Nat→Value→World→Prop} {a0:Act}
  (hD : ∀ i j,i<n→j<n→D i=D j→i=j) (hsz : ∀ i,i<n→D i<a0.tmps.size)
  (hdep : ∀ i,i<n → ∀ o,ops[i]? = some o → ∀ e∈o.after,Region.binds md e=true→e.on<i)
  (hs:Region.sinkB md ops n=true) (hc:Region.chainB md ops n=true) (hn:n<ops.size)
  (hG : ∀ j v w w',G j v w→Ext w w'→G j v w')
  (hop : ∀ i,i<n → ∀ o,ops[i]? = some o → ∀ a w,S w→Frm D n a0 a→(∀ e∈o.after,Region.binds md e=true→G e.on (a.eval (.tmp (D e.on))) w)→wpOp P ops Q i (fun a' w'=>S w'∧Ext w w' ∧ ∃ v,a'=a.put (some (D i)) v∧G i v w') a w)
  (hend : ∀ listed a w,HeadInv md ops n listed→(∀ j,j<n→listed.getD j false=true)→S w→Frm D n a0 a→(∀ j,j<n→G j (a.eval (.tmp (D j))) w)→L listed a w) :
  ∀ (f:Nat) (listed:Array Bool) (a:Act) (w:World),unl n listed=f→HeadInv md ops n listed→S w→Frm D n a0 a→(∀ j,j<n→listed.getD j false=true→G j (a.eval (.tmp (D j))) w)→wpAnyLH P md ops Q S n L f listed a w
 | 0,listed,a,w,hf,inv,hS,hF,hGa=>by
  have hall : ∀ j,j<n→listed.getD j false=true:=fun j hj=>by
   have h1:=unl_zero hf hj
   have hlt:j<listed.size:=by rw [inv.size]; omega
   simpa [hlt] using h1
  exact hend listed a w inv hall hS hF (fun j hj=>hGa j hj (hall j hj))
 | f+1,listed,a,w,hf,inv,hS,hF,hGa=>by
  -- the first that has not come up is ready
  have hex : ∃ j,j<n∧listed.getD j true=false ∧ ∀ k,k<j→listed.getD k false=true:=by
   have h0 : ∃ j,j<n∧listed.getD j true=false:=by
    refine Classical.byContradiction fun hno => ?_
    have:unl n listed=0:=List.countP_eq_zero.2 (fun j hj=>by
     have hj:=List.mem_range.1 hj
     cases hq:listed.getD j true with
     | true=>simp
     | false=>exact absurd ⟨j,hj,hq⟩ hno)
    omega
   obtain ⟨j,hj,hq⟩:=h0
   induction j using Nat.strongRecOn with
   | _ j ih =>
    by_cases hk : ∀ k,k<j→listed.getD k false=true
    ·exact ⟨j,hj,hq,hk⟩
    ·have : ∃ k,k<j∧listed.getD k false≠true:=by
      refine Classical.byContradiction fun hno=>hk (fun k hk2=>Classical.byContradiction fun h3=>hno ⟨k,hk2,h3⟩)
     obtain ⟨k,hk1,hk2⟩:=this
     refine ih k hk1 (by omega) (getD_in (by rw [inv.size]; omega) (by simpa using hk2))
  obtain ⟨j0,hj0,hq0,hmin⟩:=hex
  refine ⟨fun hr => ?_,fun i hi => ?_⟩
  ·have hj0s:j0<ops.size:=by omega
   have:j0∈Region.ready md ops listed:=mem_ready.2 ⟨hq0,ops[j0],Array.getElem?_eq_getElem hj0s,fun e he hb=>hmin _ (hdep j0 hj0 _ (Array.getElem?_eq_getElem hj0s) e he hb)⟩
   rw [hr] at this; cases this
  ·have hin:i<n:=by
    rcases Nat.lt_or_ge i n with h | h
    ·exact h
    ·exact absurd hi (tail_waits hs hc hn inv _ j0 rfl hj0 hq0 i h)
   refine ⟨hin,?_⟩
   obtain ⟨hun,o,ho,hall⟩:=mem_ready.1 hi
   have hdeps : ∀ e∈o.after,Region.binds md e=true→G e.on (a.eval (.tmp (D e.on))) w:=fun e he hb=>hGa _ (Nat.lt_trans (hdep i hin o ho e he hb) hin) (hall e he hb)
   refine wpOp_mono ?_ (hop i hin o ho a w hS hF hdeps)
   rintro a' w' ⟨hS',hE,v,rfl,hv⟩
   refine ⟨hS',wpAnyLH_inv hD hsz hdep hs hc hn hG hop hend f _ _ w' (by have:=unl_set hin hun; omega) (inv.set hi hin) hS' ?_ ?_⟩
   ·refine ⟨by simp [Act.put,hF.size],fun t ht => ?_,hF.defers⟩
    have hne:D i≠t:=ht i hin
    rw [← hF.other t ht]
    simp [Act.put,Array.getElem?_setIfInBounds_ne hne]
   ·intro j hj hl
    by_cases hij:i=j
    ·subst hij
     have hlt:D i<a.tmps.size:=by rw [hF.size]; exact hsz i hin
     have:(a.put (some (D i)) v).eval (.tmp (D i))=v:=by simp [Act.eval,Act.put,hlt]
     rw [this]; exact hv
    ·have hne:D i≠D j:=fun h=>hij (hD i j hin hj h)
     have:(a.put (some (D i)) v).eval (.tmp (D j))=a.eval (.tmp (D j)):=by simp [Act.eval,Act.put,Array.getElem?_setIfInBounds_ne hne]
     rw [this]
     rw [getD_set_ne false hij] at hl
     exact hG _ _ _ _ (hGa j hj hl) hE
theorem listed_eq {n:Nat} {listed:Array Bool} (inv:HeadInv md ops n listed) (hall : ∀ j,j<n→listed.getD j false=true):listed=((List.range ops.size).map fun j=>decide (j<n)).toArray:=by
 apply Array.ext
 ·simp [inv.size]
 ·intro j h1 h2
  have hj:j<ops.size:=by rw [← inv.size]; exact h1
  simp only [List.getElem_toArray,List.getElem_map,List.getElem_range]
  by_cases hjn:j<n
  ·have:=hall j hjn
   rw [decide_eq_true hjn]
   simpa [h1] using this
  ·rw [decide_eq_false hjn]
   have:=inv.tail j (by omega) hj
   simpa [h1] using this
end
end Go.Proofs.YtjnpakablgommaaGreatDoor
namespace Go.Proofs.YtjnpakablgommaaGreatDoor
open Go.RowKit Go.Sort
def dgB (b:Nat):Nat→Nat→List Nat
 | 0,_=>[]
 | n+1,k=>dgB b n (k/b)++[k%b]
@[simp] theorem dgB_length (b:Nat) : ∀ n k,(dgB b n k).length=n
 | 0,_=>rfl
 | n+1,k=>by simp [dgB,dgB_length b n]
def bxR (n m k:Nat):List Int:=(dgB (2*m+1) n k).map fun (d:Nat)=>(d:Int)-m
@[simp] theorem bxR_length (n m k:Nat):(bxR n m k).length=n:=by simp [bxR]
def hgt (P:List Int) (y:List Int):Nat→Nat
 | 0=>1
 | k+1=>hgt P y k*(P.getD k 0).toNat^(y.getD k 0).natAbs
end Go.Proofs.YtjnpakablgommaaGreatDoor
