/- Part 33 of the proof of the claim: contracts of the functions that it reaches, and plain laws; no condition. -/
import Derived.Test.YtjnpakablgommaaGreatDoorV29
import Derived.Test.YtjnpakablgommaaGreatDoorV30
import Derived.Test.YtjnpakablgommaaGreatDoorV32
import Derived.Test.YtjnpakablgommaaGreatDoorV26
import Derived.Test.YtjnpakablgommaaGreatDoorV31
set_option maxRecDepth 100000
namespace Go.Proofs.YtjnpakablgommaaGreatDoor
open Go.RowKit Go.Sort
def GnO (B:Nat) (w:World) (v:Value) (G:List (List Rat)):Prop := ∃ vs,vs.length=G.length∧w.ownsRow B 60 1 v G.length vs ∧ ∀ t (_:t<G.length) (h':t<vs.length),SzV B w vs[t] G[t]
theorem GnO.nil (B:Nat) (w:World):GnO B w (.slice none 0 0) []:=⟨[],rfl,⟨rfl,.inl ⟨rfl,rfl⟩⟩,fun t h=>by simp at h⟩
theorem GnO.ext {B:Nat} {w w':World} {v:Value} {G:List (List Rat)} (h:GnO B w v G) (he:Ext w w'):GnO B w' v G:=by
 obtain ⟨vs,h1,h2,h3⟩:=h
 exact ⟨vs,h1,ownsRow_ext h2 he,fun t a b=>(h3 t a b).ext he⟩
theorem GnO.mono {B B':Nat} {w:World} {v:Value} {G:List (List Rat)} (h:GnO B w v G) (hB:B'≤B):GnO B' w v G:=by
 obtain ⟨vs,h1,h2,h3⟩:=h
 exact ⟨vs,h1,ownsRow_mono h2 hB,fun t a b=>(h3 t a b).mono hB⟩
theorem GnO.read {B:Nat} {w:World} {v:Value} {G:List (List Rat)} (h:GnO B w v G):GnR w v G:=by
 obtain ⟨vs,h1,h2,h3⟩:=h
 have hr : ∀ i (h:i<G.length) (h':i<vs.length),SzR w vs[i] G[i]:=fun i a b=>(h3 i a b).read
 rcases h2.2 with ⟨rfl,h0⟩ | ⟨g,cap,cur,rfl,hb,hg,hn,hm,hs,ht⟩
 ·have:G=[]:=List.eq_nil_of_length_eq_zero h0
  subst this
  have hv:vs=[]:=List.eq_nil_of_length_eq_zero h1
  subst hv
  exact ⟨none,0,0,0,[],rfl,Nat.le_refl _,rfl,Sl.nil _ _ _ _,hr⟩
 ·have ho:OwnV 60 B w g cap vs:=by unfold OwnV; rw [h1]; exact h2
  exact ⟨_,g,0,cap,vs,rfl,hn,h1,ho.sl,hr⟩
theorem GnO.slice {B:Nat} {w:World} {v:Value} {G:List (List Rat)} (h:GnO B w v G) : ∃ a c,v = .slice a G.length c:=by
 obtain ⟨vs,h1,h2,h3⟩:=h
 rcases h2.2 with ⟨rfl,h0⟩ | ⟨g,cap,cur,rfl,_⟩
 ·exact ⟨_,_,by rw [h0]⟩
 ·exact ⟨_,_,rfl⟩
theorem SzV.one {B:Nat} {w:World} {v:Value} {r:List Rat} (h:SzV B w v r):v.oneCell'=true:=by
 rcases h.2 with ⟨rfl,_⟩ | ⟨g,cap,cur,rfl,_⟩ <;> rfl
theorem Tryz.infoSz:(Tryz.prog.info? 60).map (fun i=>(i.zero,i.size,i.bytes))=some (some (.slice none 0 0),1,24):=by kernel_rfl
theorem one_sz {z:Value} (h:z.oneCell'=true) : ∀ u∈[z],u.oneCell'=true:=fun u hu=>by
 simp only [List.mem_cons,List.not_mem_nil,or_false] at hu
 subst hu; exact h
theorem gnO_snoc {B:Nat} {w w':World} {v u:Value} {G:List (List Rat)} {r:List Rat} {vs:List Value} {gn cap:Nat} (h1:vs.length=G.length) (h2:w.ownsRow B 60 1 v G.length vs) (h3 : ∀ t (_:t<G.length) (h':t<vs.length),SzV B w vs[t] G[t]) (hr:SzV B w u r)
  (k1:w'.ownsRow B 60 1 (slv gn (G.length+1) cap) (G.length+1) (vs++[u])) (k2:w.grownBy w' v.ownBlock):GnO B w' (slv gn (G.length+1) cap) (G++[r]):=by
 have hkeep : ∀ {u:Value} {l:List Rat},SzV B w u l→SzV B w' u l:=fun hu=>own_kept hu h2 (by decide) k2
 refine ⟨vs++[u],by simp [h1],by rw [List.length_append]; exact k1,fun t ht ht' => ?_⟩
 rcases Nat.lt_or_ge t G.length with hlt | hge
 ·rw [List.getElem_append_left (by omega),List.getElem_append_left hlt]
  exact hkeep (h3 t hlt (by omega))
 ·have hte:t=G.length:=by simp at ht; omega
  subst hte
  rw [List.getElem_append_right (by omega),List.getElem_append_right (by omega)]
  simp only [h1,Nat.sub_self,List.getElem_cons_zero]
  exact hkeep hr
section
variable {w:World} {ops:Array Oper} {rest:List Oper} {o:Oper} {a:Act} {Q:Exit→Act→World→Prop}
theorem app_gn (hgd:o.guard=none) (s x:Operand) (t:TypeId) (ht:Tryz.prog.underlying t=some (.slice 60)) (ho:o.op = .call { callee := .builtin .append,args := #[s,x],argTypes := #[t,t] })
  {B:Nat} {v u:Value} {G:List (List Rat)} {r:List Rat} (hs:a.eval s=v) (hown:GnO B w v G) {b:Nat} (hx:a.eval x = .slice (some ⟨b,0,none⟩) 1 1) (hc:w.cell? ⟨b,0,none⟩=some u) (hr:SzV B w u r) (hl:G.length≤1000000000) (hB:B≤w.heap.size)
  (h : ∀ g cap w',GnO B w' (slv g (G.length+1) cap) (G++[r])→Below B w w'→w.grownBy w' v.ownBlock→wpList Tryz.prog ops Q rest (a.put o.dst (slv g (G.length+1) cap)) w'):wpList Tryz.prog ops Q (o::rest) a w:=by
 obtain ⟨i0,hi,hz0,hz1,hz2⟩:=info_parts Tryz.infoSz
 obtain ⟨vs,h1,h2,h3⟩:=hown
 refine wpList_append_lies w hgd s x t ho B 60 i0 _ 1 24 ht hi hz0 hz1 hz2 rfl (by omega) v G.length vs hs h2 ⟨b,0,none⟩ 1 1 [u] hx rfl ?_ (one_sz hr.one) (by omega) (by unfold maxLen; omega) (by omega) hB w.heap.size rfl ?_
 ·intro j z hj
  have:j=0:=by have:=(List.getElem?_eq_some_iff.1 hj).1; simp at this; omega
  subst this
  simp only [List.getElem?_cons_zero,Option.some.injEq] at hj
  subst hj
  simpa [Addr.add_lit] using hc
 ·intro g cap w' k1 k2 k3 k4
  exact h g cap w' (gnO_snoc h1 h2 h3 hr k1 k2) (Below.grown (Below.refl _ _) k2 hB (fun q hq=>(World.ownsRow.lt h2 q hq).1)) k2
end
section
variable {w:World} {ops:Array Oper} {o:Oper} {a:Act} {K:Act→World→Prop} {Q:Exit→Act→World→Prop} {E:Prop}
theorem app_gn_step (hgd:o.guard=none) (s x:Operand) (t:TypeId) (ht:Tryz.prog.underlying t=some (.slice 60)) (ho:o.op = .call { callee := .builtin .append,args := #[s,x],argTypes := #[t,t] })
  {B:Nat} {v u:Value} {G:List (List Rat)} {r:List Rat} (hs:a.eval s=v) (hown:GnO B w v G) {b:Nat} (hx:a.eval x = .slice (some ⟨b,0,none⟩) 1 1) (hc:w.cell? ⟨b,0,none⟩=some u) (hr:SzV B w u r) (hl:G.length≤1000000000) (hB:B≤w.heap.size)
  (h : ∀ g cap w',GnO B w' (slv g (G.length+1) cap) (G++[r])→Below B w w'→w.grownBy w' v.ownBlock→K (a.put o.dst (slv g (G.length+1) cap)) w'):if Region.wanted o (yielded ops a.tmps)=true then Oper.wp Tryz.prog o a w K Q else E:=by
 obtain ⟨i0,hi,hz0,hz1,hz2⟩:=info_parts Tryz.infoSz
 obtain ⟨vs,h1,h2,h3⟩:=hown
 refine step_append_lies w hgd s x t ho B 60 i0 _ 1 24 ht hi hz0 hz1 hz2 rfl (by omega) v G.length vs hs h2 ⟨b,0,none⟩ 1 1 [u] hx rfl ?_ (one_sz hr.one) (by omega) (by unfold maxLen; omega) (by omega) hB w.heap.size rfl ?_
 ·intro j z hj
  have:j=0:=by have:=(List.getElem?_eq_some_iff.1 hj).1; simp at this; omega
  subst this
  simp only [List.getElem?_cons_zero,Option.some.injEq] at hj
  subst hj
  simpa [Addr.add_lit] using hc
 ·intro g cap w' k1 k2 k3 k4
  exact h g cap w' (gnO_snoc h1 h2 h3 hr k1 k2) (Below.grown (Below.refl _ _) k2 hB (fun q hq=>(World.ownsRow.lt h2 q hq).1)) k2
end
theorem own4 (w:World) (T:TypeId) (a b c d:Value):OwnV T w.heap.size (w.alloc (.cells #[a,b,c,d] T)) w.heap.size 4 [a,b,c,d] :=
 OwnV.of (Nat.le_refl _) Array.getElem?_push_size (by simp) (by unfold maxLen; omega) rfl rfl
theorem set4 {T:TypeId} {g B:Nat} {w0 W:World} {a b c d:Value} (hE:Ext w0 W) (hg:w0.heap.size≤g) (h:OwnV T B W g 4 [a,b,c,d]) (x y z u:Value) :
  OwnV T B ((((W.setCell ⟨g,0,none⟩ x).setCell ⟨g,1,none⟩ y).setCell ⟨g,2,none⟩ z).setCell ⟨g,3,none⟩ u) g 4 [x,y,z,u]∧Ext w0 ((((W.setCell ⟨g,0,none⟩ x).setCell ⟨g,1,none⟩ y).setCell ⟨g,2,none⟩ z).setCell ⟨g,3,none⟩ u)∧W.grownBy ((((W.setCell ⟨g,0,none⟩ x).setCell ⟨g,1,none⟩ y).setCell ⟨g,2,none⟩ z).setCell ⟨g,3,none⟩ u) (some g):=by
 obtain ⟨h1,g1⟩:=h.set 0 x
 obtain ⟨h2,g2⟩:=h1.set 1 y
 obtain ⟨h3,g3⟩:=h2.set 2 z
 obtain ⟨h4,g4⟩:=h3.set 3 u
 have hG:=grown_trans (grown_trans (grown_trans g1 g2) g3) g4
 exact ⟨h4,ext_trans_grown hE hG hg,hG⟩
theorem OwnV.below {T:TypeId} {B K:Nat} {w w':World} {g cap:Nat} {xs:List Value} (h:OwnV T B w g cap xs) (hB:Below K w w') (hg:g<K):OwnV T B w' g cap xs:=by
 obtain ⟨cur,h1,h2,h3,h4,h5,h6⟩:=h.parts
 exact OwnV.of h1 (by rw [hB.block g hg]; exact h2) h3 h4 h5 h6
theorem OwnV.mem {T:TypeId} {B:Nat} {w:World} {g:Nat} {xs:List Value} (h:OwnV T B w g xs.length xs) {j:Nat} {v:Value} (k:w.cell? ⟨g,j,none⟩=some v):v∈xs:=by
 obtain ⟨cur,h1,h2,h3,h4,h5,h6⟩:=h.parts
 have hc:cur.toList=xs:=by rw [← h6,List.take_of_length_le (by rw [Array.length_toList,h5]; exact Nat.le_refl _)]
 have hk:cur[j]? = some v:=by simpa [World.cell?,h2] using k
 rw [← hc]
 exact Array.mem_toList_iff.2 (Array.mem_of_getElem? hk)
theorem nil4 {T:TypeId} {B:Nat} {w:World} {b:Nat} (ho:OwnV T B w b 4 [.slice none 0 0,.slice none 0 0,.slice none 0 0,.slice none 0 0]) {j:Nat} {v:Value} (k:w.cell? ⟨b,j,none⟩=some v):v = .slice none 0 0:=by
 have:=OwnV.mem (xs:=[.slice none 0 0,.slice none 0 0,.slice none 0 0,.slice none 0 0]) ho k
 simpa using this
theorem row_off {T:TypeId} {B:Nat} {w w':World} {b:Nat} {v:Value} {r:List Int} (h:RowR w v r) (ho:OwnV T B w b 4 [.slice none 0 0,.slice none 0 0,.slice none 0 0,.slice none 0 0]) (hG:w.grownBy w' (some b)):RowR w' v r:=by
 obtain ⟨sa,gb,go,cap,e,hc,hS⟩:=h
 refine ⟨sa,gb,go,cap,e,hc,hS.addr,fun i x hx => ?_⟩
 have h0:=hS.cell i x hx
 have hne:gb≠b:=fun hb=>by
  subst hb
  have h2:=nil4 ho h0
  obtain ⟨hi,_⟩:=List.getElem?_eq_some_iff.1 hx
  rw [is_get (by simpa using hi),h2] at hx
  cases hx
 exact grown_frozen_cell hG hne h0
theorem mat_off {T:TypeId} {B:Nat} {w w':World} {b:Nat} {v:Value} {M:Mx} (h:MatR w v M) (hM : ∀ r∈M,0<r.length) (ho:OwnV T B w b 4 [.slice none 0 0,.slice none 0 0,.slice none 0 0,.slice none 0 0]) (hG:w.grownBy w' (some b)):MatR w' v M:=by
 obtain ⟨sa,gb,go,cap,vs,e,hc,hl,hS,hr⟩:=h
 refine ⟨sa,gb,go,cap,vs,e,hc,hl,⟨hS.addr,fun i x hx => ?_⟩,fun i a b'=>row_off (hr i a b') ho hG⟩
 have h0:=hS.cell i x hx
 have hne:gb≠b:=fun hb=>by
  subst hb
  have h2:=nil4 ho h0
  obtain ⟨hi,hx⟩:=List.getElem?_eq_some_iff.1 hx
  have hi2:i<M.length:=by omega
  obtain ⟨_,_,_,_,e2,_,_⟩:=hr i hi2 hi
  rw [hx,h2] at e2
  injection e2 with _ e3 _
  have:=hM _ (List.getElem_mem hi2)
  omega
 exact grown_frozen_cell hG hne h0
theorem GnO.kept {B g:Nat} {w w':World} {v:Value} {G:List (List Rat)} (h:GnO B w v G) (hG:w.grownBy w' (some g)) (hg:g<B):GnO B w' v G:=by
 obtain ⟨vs,h1,h2,h3⟩:=h
 refine ⟨vs,h1,World.ownsRow.kept h2 hG ?_,fun t a b=>(h3 t a b).kept hG hg⟩
 have hl:=World.ownsRow.lt h2
 rcases hv:v.ownBlock with _ | q
 ·exact .inl rfl
 ·refine .inr ?_
  have:=hl q hv
  intro h2
  injection h2 with h2
  omega
abbrev planT (b:Int) (rv:Value) (vals:Bool) (A B:Nat→Nat→Int):Value := .agg #[.int .u8 b,rv,.bool vals,.int .i8 (A 0 0),.int .u8 (B 0 0),.int .i8 (A 0 1),.int .u8 (B 0 1),.int .i8 (A 0 2),.int .u8 (B 0 2),.int .i8 (A 0 3),.int .u8 (B 0 3),.int .i8 (A 1 0),.int .u8 (B 1 0),.int .i8 (A 1 1),.int .u8 (B 1 1),.int .i8 (A 1 2),.int .u8 (B 1 2),.int .i8 (A 1 3),.int .u8 (B 1 3),.int .i8 (A 2 0),.int .u8 (B 2 0),.int .i8 (A 2 1),.int .u8 (B 2 1),.int .i8 (A 2 2),.int .u8 (B 2 2),.int .i8 (A 2 3),.int .u8 (B 2 3),.int .i8 (A 3 0),.int .u8 (B 3 0),.int .i8 (A 3 1),.int .u8 (B 3 1),.int .i8 (A 3 2),.int .u8 (B 3 2),.int .i8 (A 3 3),.int .u8 (B 3 3)]
theorem fits24_any {w:World} {b:Int} {rv:Value} {Z:List (List Int)} {vals:Bool} {A B:Nat→Nat→Int} (hR:RowsA w rv Z) :
  Calls Tryz.prog 23 #[planT b rv vals A B] w fun e w'=>e = .returned (.bool (decide (Z.length≤3)))∧Ext w w':=by
 have hft:=Lib.hid (fun W (hW:Ext w W)=>fits18_any (b:=b) (vals:=vals) (hR.ext hW))
 generalize decide (Z.length≤3)=q at *
 obtain ⟨sr,gr,orr,cr,rfl,hrest⟩:=hR
 clear hrest
 generalize Z.length=n at *
 have hX:=(Ext.refl w).alloc (.cells #[.int .u8 b,.slice sr n cr,.bool vals,.int .i8 (A 0 0),.int .u8 (B 0 0),.int .i8 (A 0 1),.int .u8 (B 0 1),.int .i8 (A 0 2),.int .u8 (B 0 2),.int .i8 (A 0 3),.int .u8 (B 0 3),.int .i8 (A 1 0),.int .u8 (B 1 0),.int .i8 (A 1 1),.int .u8 (B 1 1),.int .i8 (A 1 2),.int .u8 (B 1 2),.int .i8 (A 1 3),.int .u8 (B 1 3),.int .i8 (A 2 0),.int .u8 (B 2 0),.int .i8 (A 2 1),.int .u8 (B 2 1),.int .i8 (A 2 2),.int .u8 (B 2 2),.int .i8 (A 2 3),.int .u8 (B 2 3),.int .i8 (A 3 0),.int .u8 (B 3 0),.int .i8 (A 3 1),.int .u8 (B 3 1),.int .i8 (A 3 2),.int .u8 (B 3 2),.int .i8 (A 3 3),.int .u8 (B 3 3)] 58)
 go_enter Tryz.func23,Tryz.ntmps23
 go_wp2_with fail
 refine (hft.out _ hX).mono ?_
 rintro e X ⟨rfl,hE⟩
 go_wp2_with fail
 go_ret
 exact ⟨rfl,hX.trans hE⟩
def mkG (A B:Nat→Nat→Int) (np k:Nat):List (List Rat):=(List.range k).map fun i=>mk13L (A (i%4)) (B (i%4)) np
@[simp] theorem mkG_length (A B:Nat→Nat→Int) (np k:Nat):(mkG A B np k).length=k:=by simp [mkG]
theorem mkG_snoc (A B:Nat→Nat→Int) (np k:Nat):mkG A B np k++[mk13L (A (k%4)) (B (k%4)) np]=mkG A B np (k+1):=by
 unfold mkG
 rw [List.range_succ,List.map_append]; rfl
theorem mkG_tw {A B:Nat→Nat→Int} {np k:Nat} : ∀ l∈mkG A B np k,l.length=np ∧ ∀ r∈l,Tw 480 r:=fun l hl=>by
 obtain ⟨i,_,rfl⟩:=List.mem_map.1 hl
 refine ⟨by simp,fun r hr => ?_⟩
 obtain ⟨t,_,rfl⟩:=List.mem_map.1 hr
 exact frQ_tw
theorem tw_sh {l:List Rat} (h : ∀ r∈l,Tw 480 r):ShQ l:=fun r hr=>(h r hr).sm (by decide)
def Mk24Post (w:World) (b:Int) (A B:Nat→Nat→Int) (e:Ending) (w':World):Prop := ∃ t C M,e = .returned t∧TuR w' t (prL b) C M (mkG A B (prL b).length M.length)∧Ext w w'
set_option maxHeartbeats 8000000 in
theorem make24_any {w:World} {b:Int} {rv:Value} {Z:List (List Int)} {vals:Bool} {A B:Nat→Nat→Int} (hb:0≤b∧b≤255) (hR:RowsA w rv Z) (hl:Z.length≤3) (hB : ∀ i t,0≤B i t∧B i t≤255) (hL:Laid w) :
  Calls Tryz.prog 26 #[planT b rv vals A B] w (Mk24Post w b A B):=by
 have hmk:=Lib.hid (fun W (hW:Ext w W)=>make18_any (vals:=vals) hb (hR.ext hW) hl (hL.ext hW))
 have HL:=Lib.hid hL
 have HB:=Lib.hid hB
 have hX:=((Ext.refl w).alloc (.cells #[.int .u8 b,rv,.bool vals,.int .i8 (A 0 0),.int .u8 (B 0 0),.int .i8 (A 0 1),.int .u8 (B 0 1),.int .i8 (A 0 2),.int .u8 (B 0 2),.int .i8 (A 0 3),.int .u8 (B 0 3),.int .i8 (A 1 0),.int .u8 (B 1 0),.int .i8 (A 1 1),.int .u8 (B 1 1),.int .i8 (A 1 2),.int .u8 (B 1 2),.int .i8 (A 1 3),.int .u8 (B 1 3),.int .i8 (A 2 0),.int .u8 (B 2 0),.int .i8 (A 2 1),.int .u8 (B 2 1),.int .i8 (A 2 2),.int .u8 (B 2 2),.int .i8 (A 2 3),.int .u8 (B 2 3),.int .i8 (A 3 0),.int .u8 (B 3 0),.int .i8 (A 3 1),.int .u8 (B 3 1),.int .i8 (A 3 2),.int .u8 (B 3 2),.int .i8 (A 3 3),.int .u8 (B 3 3)] 58)).alloc (.cells #[.slice none 0 0,.slice none 0 0,.slice none 0 0,.slice none 0 0] 67)
 have hc : ∀ t,t<4 → ∀ j,j<4→((w.alloc (.cells #[.int .u8 b,rv,.bool vals,.int .i8 (A 0 0),.int .u8 (B 0 0),.int .i8 (A 0 1),.int .u8 (B 0 1),.int .i8 (A 0 2),.int .u8 (B 0 2),.int .i8 (A 0 3),.int .u8 (B 0 3),.int .i8 (A 1 0),.int .u8 (B 1 0),.int .i8 (A 1 1),.int .u8 (B 1 1),.int .i8 (A 1 2),.int .u8 (B 1 2),.int .i8 (A 1 3),.int .u8 (B 1 3),.int .i8 (A 2 0),.int .u8 (B 2 0),.int .i8 (A 2 1),.int .u8 (B 2 1),.int .i8 (A 2 2),.int .u8 (B 2 2),.int .i8 (A 2 3),.int .u8 (B 2 3),.int .i8 (A 3 0),.int .u8 (B 3 0),.int .i8 (A 3 1),.int .u8 (B 3 1),.int .i8 (A 3 2),.int .u8 (B 3 2),.int .i8 (A 3 3),.int .u8 (B 3 3)] 58)).alloc (.cells #[.slice none 0 0,.slice none 0 0,.slice none 0 0,.slice none 0 0] 67)).cell? ⟨w.heap.size,3+t*8+2*j,none⟩=some (.int .i8 (A t j))∧((w.alloc (.cells #[.int .u8 b,rv,.bool vals,.int .i8 (A 0 0),.int .u8 (B 0 0),.int .i8 (A 0 1),.int .u8 (B 0 1),.int .i8 (A 0 2),.int .u8 (B 0 2),.int .i8 (A 0 3),.int .u8 (B 0 3),.int .i8 (A 1 0),.int .u8 (B 1 0),.int .i8 (A 1 1),.int .u8 (B 1 1),.int .i8 (A 1 2),.int .u8 (B 1 2),.int .i8 (A 1 3),.int .u8 (B 1 3),.int .i8 (A 2 0),.int .u8 (B 2 0),.int .i8 (A 2 1),.int .u8 (B 2 1),.int .i8 (A 2 2),.int .u8 (B 2 2),.int .i8 (A 2 3),.int .u8 (B 2 3),.int .i8 (A 3 0),.int .u8 (B 3 0),.int .i8 (A 3 1),.int .u8 (B 3 1),.int .i8 (A 3 2),.int .u8 (B 3 2),.int .i8 (A 3 3),.int .u8 (B 3 3)] 58)).alloc (.cells #[.slice none 0 0,.slice none 0 0,.slice none 0 0,.slice none 0 0] 67)).cell? ⟨w.heap.size,3+t*8+2*j+1,none⟩=some (.int .u8 (B t j)):=fun t ht j hj=>by
  rcases (show t=0∨t=1∨t=2∨t=3 by omega) with rfl | rfl | rfl | rfl <;> rcases (show j=0∨j=1∨j=2∨j=3 by omega) with rfl | rfl | rfl | rfl <;> constructor <;> go_simp
 obtain ⟨sr,gr,orr,cr,rfl,hrest⟩:=hR
 clear hrest hb hl hB hL
 go_enter Tryz.func26,Tryz.ntmps26
 go_wp2_with fail
 generalize hV:World.alloc (World.alloc w _) _=V at *
 have h2l:V.heap.size=w.heap.size+1+1:=by rw [← hV]; simp
 have HO:=Lib.hid (show OwnV 67 (w.heap.size+1) V (w.heap.size+1) 4 [.slice none 0 0,.slice none 0 0,.slice none 0 0,.slice none 0 0] by
  have h:=own4 (w.alloc (.cells #[.int .u8 b,.slice sr Z.length cr,.bool vals,.int .i8 (A 0 0),.int .u8 (B 0 0),.int .i8 (A 0 1),.int .u8 (B 0 1),.int .i8 (A 0 2),.int .u8 (B 0 2),.int .i8 (A 0 3),.int .u8 (B 0 3),.int .i8 (A 1 0),.int .u8 (B 1 0),.int .i8 (A 1 1),.int .u8 (B 1 1),.int .i8 (A 1 2),.int .u8 (B 1 2),.int .i8 (A 1 3),.int .u8 (B 1 3),.int .i8 (A 2 0),.int .u8 (B 2 0),.int .i8 (A 2 1),.int .u8 (B 2 1),.int .i8 (A 2 2),.int .u8 (B 2 2),.int .i8 (A 2 3),.int .u8 (B 2 3),.int .i8 (A 3 0),.int .u8 (B 3 0),.int .i8 (A 3 1),.int .u8 (B 3 1),.int .i8 (A 3 2),.int .u8 (B 3 2),.int .i8 (A 3 3),.int .u8 (B 3 3)] 58)) 67 (.slice none 0 0) (.slice none 0 0) (.slice none 0 0) (.slice none 0 0)
  rw [show (w.alloc (.cells #[.int .u8 b,.slice sr Z.length cr,.bool vals,.int .i8 (A 0 0),.int .u8 (B 0 0),.int .i8 (A 0 1),.int .u8 (B 0 1),.int .i8 (A 0 2),.int .u8 (B 0 2),.int .i8 (A 0 3),.int .u8 (B 0 3),.int .i8 (A 1 0),.int .u8 (B 1 0),.int .i8 (A 1 1),.int .u8 (B 1 1),.int .i8 (A 1 2),.int .u8 (B 1 2),.int .i8 (A 1 3),.int .u8 (B 1 3),.int .i8 (A 2 0),.int .u8 (B 2 0),.int .i8 (A 2 1),.int .u8 (B 2 1),.int .i8 (A 2 2),.int .u8 (B 2 2),.int .i8 (A 2 3),.int .u8 (B 2 3),.int .i8 (A 3 0),.int .u8 (B 3 0),.int .i8 (A 3 1),.int .u8 (B 3 1),.int .i8 (A 3 2),.int .u8 (B 3 2),.int .i8 (A 3 3),.int .u8 (B 3 3)] 58)).heap.size=w.heap.size+1 by simp,hV] at h
  exact h)
 have Hc:=Lib.hid hc
 clear hV hc
 refine (hmk.out _ hX).mono ?_
 rintro e X ⟨t,C,M,rfl,hT,hE1⟩
 obtain ⟨sp,cp,sc,lc,cc,sm,lm,cm,rfl,hTv⟩:=hT.open
 clear hT
 have hT:=hTv
 clear hTv
 have hP4:=hT.ok.p4
 have hM4:=hT.m4
 have hlm:=hT.hM.len
 subst hlm
 have e1:=hX.trans hE1
 have hXs:=hE1.size
 have HT:=Lib.hid hT
 have eY:=((Ext.refl X).alloc (.cells #[.slice sp (prL b).length cp,.slice sc lc cc,.slice sm M.length cm] 34)).alloc (.cells #[.slice sp (prL b).length cp,.slice sc lc cc,.slice sm M.length cm,.slice none 0 0] 67)
 have HY4:=own4 (X.alloc (.cells #[.slice sp (prL b).length cp,.slice sc lc cc,.slice sm M.length cm] 34)) 67 (.slice sp (prL b).length cp) (.slice sc lc cc) (.slice sm M.length cm) (.slice none 0 0)
 rw [show (X.alloc (.cells #[.slice sp (prL b).length cp,.slice sc lc cc,.slice sm M.length cm] 34)).heap.size=X.heap.size+1 by simp] at HY4
 have y0:((X.alloc (.cells #[.slice sp (prL b).length cp,.slice sc lc cc,.slice sm M.length cm] 34)).alloc (.cells #[.slice sp (prL b).length cp,.slice sc lc cc,.slice sm M.length cm,.slice none 0 0] 67)).cell? ⟨X.heap.size,0,none⟩=some (.slice sp (prL b).length cp):=by go_simp
 have y2:((X.alloc (.cells #[.slice sp (prL b).length cp,.slice sc lc cc,.slice sm M.length cm] 34)).alloc (.cells #[.slice sp (prL b).length cp,.slice sc lc cc,.slice sm M.length cm,.slice none 0 0] 67)).cell? ⟨X.heap.size,2,none⟩=some (.slice sm M.length cm):=by go_simp
 clear hT hmk hX
 go_wp2_with fail
 generalize hYY:(X.alloc (.cells #[.slice sp (prL b).length cp,.slice sc lc cc,.slice sm M.length cm] 34)).alloc (.cells #[.slice sp (prL b).length cp,.slice sc lc cc,.slice sm M.length cm,.slice none 0 0] 67)=Y at *
 have hYs:Y.heap.size=X.heap.size+1+1:=by rw [← hYY]; simp
 have HY4:=Lib.hid HY4
 have HO:=Lib.hid (HO.out.ext (hE1.trans eY))
 have hcY:=Lib.hid (fun (t:Nat) (ht:t<4) (j:Nat) (hj:j<4)=>And.intro ((hE1.trans eY).cell (Hc.out t ht j hj).1) ((hE1.trans eY).cell (Hc.out t ht j hj).2))
 have e2:=e1.trans eY
 have HTX:=HT
 have HXY:=Lib.hid eY
 obtain ⟨b3,hb3⟩ : ∃ b3,b3=X.heap.size:=⟨_,rfl⟩
 rw [← hb3] at y0 y2 HY4 hYs ⊢
 have hb3w:w.heap.size+1+1≤b3:=by omega
 have Hb3w:=Lib.hid hb3w
 have HbX:=Lib.hid hb3
 have HYs:=Lib.hid hYs
 clear hYY e1 eY hE1 hXs h2l hb3 hb3w hYs Hc
 go_loopw [5] (fun iv wr => ∃ (i:Nat) (gv:Value),i≤M.length∧iv = .int .i64 i∧Hid (OwnV 67 (b3+1) wr (b3+1) 4 [.slice sp (prL b).length cp,.slice sc lc cc,.slice sm M.length cm,gv])∧Hid (GnO (b3+1+1) wr gv (mkG A B (prL b).length i))∧Hid (Below (b3+1) Y wr)) (fun iv _=>M.length-(intOf iv).toNat)
 case atStart=>exact ⟨0,_,by omega,by go_num,Lib.hid (HY4.out.mono (by omega)),Lib.hid (GnO.nil _ _),Lib.hid (Below.refl _ _)⟩
 case round =>
  obtain ⟨i,gv,hi,rfl,HO4,HG,HB4⟩:=hrel
  generalize wr=Z at *
  have hZs:=HB4.out.size
  have hZs2:b3+1+1≤Z.heap.size:=by have:=HYs.out; omega
  have HZs:=Lib.hid hZs2
  have z2:Z.cell? ⟨b3,2,none⟩=some (.slice sm M.length cm):=by rw [Below.cell HB4.out (show b3<b3+1 by omega)]; exact y2
  clear hZs hZs2
  by_cases hlt:i<M.length
  ·have hii:(i:Int)<(M.length:Int):=by omega
   obtain ⟨t,ht⟩ : ∃ t,t=i%4:=⟨_,rfl⟩
   have ht4:t<4:=by omega
   have hti:(i:Int).tmod 4=(t:Int):=by rw [Int.tmod_eq_emod_of_nonneg (by omega)]; omega
   have z0:Z.cell? ⟨b3,0,none⟩=some (.slice sp (prL b).length cp):=by rw [Below.cell HB4.out (show b3<b3+1 by omega)]; exact y0
   have hp8 : ∀ W,Below (b3+1+1) Z W → ∀ k v,Y.cell? ⟨w.heap.size,3+t*8+k,none⟩=some v→W.cell? ⟨w.heap.size,3+t*8+k,none⟩=some v:=fun W hW k v hv=>by
    have h1:w.heap.size<b3+1+1:=by have:=Hb3w.out; omega
    have h2:w.heap.size<b3+1:=by have:=Hb3w.out; omega
    rw [Below.cell hW h1,Below.cell HB4.out h2]
    exact hv
   have hp8' : ∀ W,Below (b3+1+1) Z W→W.cell? ⟨w.heap.size,3+t*8,none⟩=some (.int .i8 (A t 0))∧W.cell? ⟨w.heap.size,3+t*8+1,none⟩=some (.int .u8 (B t 0))∧W.cell? ⟨w.heap.size,3+t*8+2,none⟩=some (.int .i8 (A t 1))∧W.cell? ⟨w.heap.size,3+t*8+3,none⟩=some (.int .u8 (B t 1))∧W.cell? ⟨w.heap.size,3+t*8+4,none⟩=some (.int .i8 (A t 2))∧W.cell? ⟨w.heap.size,3+t*8+5,none⟩=some (.int .u8 (B t 2))∧W.cell? ⟨w.heap.size,3+t*8+6,none⟩=some (.int .i8 (A t 3))∧W.cell? ⟨w.heap.size,3+t*8+7,none⟩=some (.int .u8 (B t 3)):=fun W hW =>
    ⟨hp8 W hW 0 _ (hcY.out t ht4 0 (by omega)).1,hp8 W hW 1 _ (hcY.out t ht4 0 (by omega)).2,hp8 W hW 2 _ (hcY.out t ht4 1 (by omega)).1,hp8 W hW 3 _ (hcY.out t ht4 1 (by omega)).2,hp8 W hW 4 _ (hcY.out t ht4 2 (by omega)).1,hp8 W hW 5 _ (hcY.out t ht4 2 (by omega)).2,hp8 W hW 6 _ (hcY.out t ht4 3 (by omega)).1,hp8 W hW 7 _ (hcY.out t ht4 3 (by omega)).2⟩
   have o3:=HO4.out.cell (j:=3) (by simp)
   simp only [List.getElem_cons_zero,List.getElem_cons_succ] at o3
   obtain ⟨ga,gc,rfl⟩:=HG.out.slice
   rw [mkG_length] at o3 HO4 HG
   have hm13:=Lib.hid (fun W (hW:Ext w W)=>Make13_any (pa:=sp) (np:=(prL b).length) (cp:=cp) (A:=A t) (B:=B t) (fun j=>HB.out t j) (by omega) (HL.out.ext hW))
   have eZ:=Lib.hid (show Ext w Z from Below.trans e2 (HB4.out.mono (by have:=Hb3w.out; omega)))
   have Ht:=Lib.hid ht
   have Hp8:=Lib.hid hp8'
   have htI:(t:Int)<4:=by omega
   clear ht hp8 hp8' hlt
   go_wp2_with fail
   have d0:Below (b3+1+1) Z Z.drew:=Below.mono (Ext.refl Z).drew (by have:=HZs.out; omega)
   have d0E:Ext Z Z.drew:=(Ext.refl Z).drew
   refine wp_region_held_tail (S:=fun W=>Below (b3+1+1) Z W) 12 (by kernel_rfl) (by simp) ?_
   intro inv
   generalize Z.drew=Z1 at *
   refine wpAnyLH_take (i:=0) (v := .pointer (some ⟨b3+1,3,none⟩)) rfl (by kernel_rfl) (fun _ _ _ h=>h) (.inl ⟨by rfl,fun W hW=>by go_simp⟩) d0 inv ?_
   intro inv
   go_simp
   refine wpAnyLH_take (i:=1) (v := .slice ga i gc) rfl (by kernel_rfl) (fun _ _ _ h=>h) (.inl ⟨by rfl,fun W hW=>by have q0:=(Below.cell hW (show b3+1<b3+1+1 by omega)).trans o3; go_simp⟩) d0 inv ?_
   intro inv
   go_simp
   refine wpAnyLH_take (i:=2) (v := .pointer (some ⟨b3,0,none⟩)) rfl (by kernel_rfl) (fun _ _ _ h=>h) (.inl ⟨by rfl,fun W hW=>by go_simp⟩) d0 inv ?_
   intro inv
   go_simp
   refine wpAnyLH_take (i:=3) (v := .slice sp (prL b).length cp) rfl (by kernel_rfl) (fun _ _ _ h=>h) (.inl ⟨by rfl,fun W hW=>by have q0:=(Below.cell hW (show b3<b3+1+1 by omega)).trans z0; go_simp⟩) d0 inv ?_
   intro inv
   go_simp
   refine wpAnyLH_take (i:=4) (v := .int .i64 i) rfl (by kernel_rfl) (fun _ _ _ h=>h) (.inl ⟨by rfl,fun W hW=>by go_simp⟩) d0 inv ?_
   intro inv
   go_simp
   refine wpAnyLH_take (i:=5) (v := .int .i64 t) rfl (by kernel_rfl) (fun _ _ _ h=>h) (.inl ⟨by rfl,fun W hW=>by go_simp⟩) d0 inv ?_
   intro inv
   go_simp
   refine wpAnyLH_take (i:=6) (v := .pointer (some ⟨w.heap.size,3,none⟩)) rfl (by kernel_rfl) (fun _ _ _ h=>h) (.inl ⟨by rfl,fun W hW=>by go_simp⟩) d0 inv ?_
   intro inv
   go_simp
   refine wpAnyLH_take (i:=7) (v := .pointer (some ⟨w.heap.size,3+t*8,none⟩)) rfl (by kernel_rfl) (fun _ _ _ h=>h) (.inl ⟨by rfl,fun W hW=>by go_simp⟩) d0 inv ?_
   intro inv
   go_simp
   refine wpAnyLH_take (i:=8) (v:=ptsV (A t) (B t)) rfl (by kernel_rfl) (fun _ _ _ h=>h) (.inl ⟨by rfl,fun W hW=>by obtain ⟨q0,q1,q2,q3,q4,q5,q6,q7⟩:=Hp8.out W hW; go_simp⟩) d0 inv ?_
   intro inv
   go_simp
   refine wpAnyLH_oneI (i:=9) rfl (by kernel_rfl) inv (fun inv K0 hK0 => ?_)
   go_simp
   refine (hm13.out _ (eZ.out.trans d0E)).mono ?_
   rintro e Z2 ⟨⟨vv,rfl,hv⟩,hE3⟩
   have d1E:=d0E.trans hE3
   have d1:Below (b3+1+1) Z Z2:=Below.mono d1E (by have:=HZs.out; omega)
   have Hv:=Lib.hid hv
   obtain ⟨va,vl,vc,rfl⟩:=hv.slice
   refine hK0 _ _ d1 ?_
   clear hK0 hv
   refine wpAnyLH_oneI (i:=10) rfl (by kernel_rfl) inv (fun inv K0 hK0 => ?_)
   go_simp
   have d2E:=d1E.alloc (.cells #[.slice va vl vc] 60)
   have d2:Below (b3+1+1) Z (Z2.alloc (.cells #[.slice va vl vc] 60)):=Below.mono d2E (by have:=HZs.out; omega)
   refine hK0 _ _ d2 ?_
   clear hK0
   refine wpAnyLH_oneI (i:=11) rfl (by kernel_rfl) inv (fun inv K0 hK0 => ?_)
   refine app_gn_step (by rfl) _ _ 65 Tryz.underlying65 (by rfl) (by rfl) (HG.out.ext d2E) (b:=Z2.heap.size) (by rfl) (u := .slice va vl vc) (r:=mk13L (A t) (B t) (prL b).length) (by go_simp) ((Hv.out.mono (by have:=d0E.size; have:=HZs.out; omega)).ext ((Ext.refl _).alloc _)) (by rw [mkG_length]; omega) (by have:=d2E.size; have:=HZs.out; omega) ?_
   intro g9 c9 W9 hO9 hB9 hG9
   rw [mkG_length] at hO9 ⊢
   rw [Ht.out,mkG_snoc] at hO9
   have d9:=d2.trans hB9
   refine hK0 _ _ d9 ?_
   clear hK0
   refine wpAnyLH_end (by kernel_rfl) ?_
   have HO9:=Lib.hid (HO4.out.below (d9) (by omega))
   have e0:=HO9.out.cell (j:=3) (by simp)
   simp only [List.getElem_cons_zero,List.getElem_cons_succ] at e0
   have f0:=HO9.out.frozen 3
   obtain ⟨h4,g4⟩:=OwnV.set HO9.out 3 (slv g9 (i+1) c9)
   have H4:=Lib.hid h4
   have G4:=Lib.hid (GnO.kept hO9 g4 (by omega))
   have B4:=Lib.hid (Below.grown (HB4.out.trans (Below.mono d9 (by omega))) g4 (by have:=(HB4.out.trans (Below.mono d9 (by omega))).size; have:=HYs.out; omega) (fun q hq=>by injection hq with hq; omega))
   clear hO9 hB9 hG9 h4 g4 inv d0 d0E d1 d1E d2 d2E hE3 HO9 o3 z0 hm13
   go_wp2_with fail
   go_roundw
   case rel=>exact ⟨i+1,_,by omega,by go_num,H4,G4,B4⟩
   case measure=>simp [intOf] <;> omega
  ·obtain rfl:i=M.length:=by omega
   have hii : ¬ (M.length:Int)<(M.length:Int):=by omega
   have o0:=HO4.out.cell (j:=0) (by simp)
   have o1:=HO4.out.cell (j:=1) (by simp)
   have o2:=HO4.out.cell (j:=2) (by simp)
   have o3:=HO4.out.cell (j:=3) (by simp)
   simp only [List.getElem_cons_zero,List.getElem_cons_succ] at o0 o1 o2 o3
   have hb3:w.heap.size+1+1≤b3:=Hb3w.out
   have hlB:w.heap.size+1<b3+1:=by omega
   have H2:=HO.out.below HB4.out hlB
   obtain ⟨ga,gc,rfl⟩:=HG.out.slice
   rw [mkG_length] at o3 HO4 HG
   have eZ:=Below.trans e2 (HB4.out.mono (show w.heap.size≤b3+1 by omega))
   obtain ⟨Hr6,He6,Hg6⟩:=set4 eZ (by omega) H2 (.slice sp (prL b).length cp) (.slice sc lc cc) (.slice sm M.length cm) (.slice ga M.length gc)
   have r0:=Hr6.cell (j:=0) (by simp)
   have r1:=Hr6.cell (j:=1) (by simp)
   have r2:=Hr6.cell (j:=2) (by simp)
   have r3:=Hr6.cell (j:=3) (by simp)
   simp only [List.getElem_cons_zero,List.getElem_cons_succ] at r0 r1 r2 r3
   have f0:=H2.frozen 0
   have f1:=H2.frozen 1
   have f2:=H2.frozen 2
   have f3:=H2.frozen 3
   have m0:=H2.cell (j:=0) (by simp)
   have m1:=H2.cell (j:=1) (by simp)
   have m2:=H2.cell (j:=2) (by simp)
   have m3:=H2.cell (j:=3) (by simp)
   simp only [List.getElem_cons_zero,List.getElem_cons_succ] at m0 m1 m2 m3
   have eXZ:Ext X Z:=Below.trans HXY.out (HB4.out.mono (by have:=HbX.out; omega))
   have hTZ:=HTX.out.ext eXZ
   obtain ⟨psC,hIC⟩:=hTZ.ok.kC.1
   obtain ⟨psM,hIM⟩:=hTZ.ok.kM.1
   have hp0:=hTZ.ok.p0
   have hTF:=TmV.mk hTZ.ok (row_off hTZ.hP H2 Hg6) (mat_off hTZ.hC (fun r hr=>by rw [hIC.rect r hr]; exact hp0) H2 Hg6) (mat_off hTZ.hM (fun r hr=>by rw [hIM.rect r hr]; exact hp0) H2 Hg6)
   have hGF:=(HG.out.kept Hg6 (by omega)).read
   have Hres:=Lib.hid (show Mk24Post w b A B (.returned (tuS (prL b) sp cp sc lc cc sm M.length cm ga M.length gc)) _ from ⟨_,C,M,rfl,⟨_,_,_,_,_,_,_,_,_,_,_,rfl,⟨hTF,hGF,by simp,fun l hl=>(mkG_tw l hl).1,fun l hl=>tw_sh (mkG_tw l hl).2⟩⟩,He6⟩)
   clear Hr6 He6 Hg6 hTF hGF hTZ hIC hIM hp0 H2 eXZ eZ HB4 HG HO4 hlt hi hlB hb3 e2 y0 y2
   go_wp2_with fail
   refine bodyPost_ret (v:=tuS (prL b) sp cp sc lc cc sm M.length cm ga M.length gc) (by simp [results,Tryz.results26,go_sem,r0,r1,r2,r3]) rfl Hres.out
theorem cmbF_tw {G:List (List Rat)} {x:List Int} {c k A K:Nat} (hG : ∀ l∈G,∀ r∈l,Tw A r) (hx : ∀ z∈x,z.natAbs≤K):Tw (A*K) (cmbF G (nbL x) c k):=by
 unfold cmbF
 have h1:Tw A ((G.getD k []).getD c 0):=by
  rw [List.getD_eq_getElem?_getD,List.getD_eq_getElem?_getD]
  by_cases h:k<G.length
  ·rw [List.getElem?_eq_getElem h,Option.getD_some]
   by_cases h2:c<G[k].length
   ·rw [List.getElem?_eq_getElem h2,Option.getD_some]; exact hG _ (List.getElem_mem h) _ (List.getElem_mem h2)
   ·rw [List.getElem?_eq_none (by omega)]; exact Tw.zero _
  ·rw [List.getElem?_eq_none (show G.length≤k by omega),Option.getD_none,List.getElem?_nil]; exact Tw.zero _
 have h2 : ∃ z:Int,(nbL x).getD k 0=(z:Rat)∧z.natAbs≤K:=by
  rw [List.getD_eq_getElem?_getD]
  by_cases h:k<x.length
  ·have hk:k<(nbL x).length:=by rw [nbL_length]; exact h
   refine ⟨x[k],?_,hx _ (List.getElem_mem h)⟩
   rw [List.getElem?_eq_getElem hk,Option.getD_some]
   simp [nbL]
  ·rw [List.getElem?_eq_none (by rw [nbL_length]; omega)]
   exact ⟨0,rfl,by simp⟩
 obtain ⟨z,e,hz⟩:=h2
 rw [e]
 exact h1.mulInt hz
theorem cmbQ_tw {G:List (List Rat)} {x:List Int} {n A K:Nat} (hG : ∀ l∈G,∀ r∈l,Tw A r) (hx : ∀ z∈x,z.natAbs≤K) : ∀ r∈cmbQ G (nbL x) n,Tw (G.length*(A*K)) r:=fun r hr=>by
 unfold cmbQ at hr
 obtain ⟨c,_,rfl⟩:=List.mem_map.1 hr
 exact sumR_tw _ fun k _=>cmbF_tw hG hx
theorem Tw.neg {A:Nat} {a:Rat} (h:Tw A a):Tw A (-a):=by
 obtain ⟨m,rfl,h2⟩:=h
 refine ⟨-m,?_,by omega⟩
 rw [Rat.intCast_neg]; grind
theorem Tw.sub {A B:Nat} {a b:Rat} (h:Tw A a) (k:Tw B b):Tw (A+B) (a-b):=by
 rw [show a-b=a + -b by grind]; exact h.add k.neg
theorem Tw.int {K:Nat} {z:Int} (h:z.natAbs≤K):Tw (12*K) (z:Rat):=by
 refine ⟨z*12,?_,by omega⟩
 rw [Rat.intCast_mul]
 have:((12:Int):Rat)=12:=rfl
 grind
theorem tuL_tw {A B:Nat→Nat→Int} {np k:Nat} {M:Mx} {x:List Int} (hs:smallB (tmpL M x)=true) : ∀ r∈tuL np M (mkG A B np k) x,Tw (k*(480*1000000000)) r:=fun r hr=>by
 have:=cmbQ_tw (G:=mkG A B np k) (x:=tmpL M x) (n:=np) (A:=480) (K:=1000000000) (fun l hl=>(mkG_tw l hl).2) (fun z hz=>by have:=smallB_iff.1 hs z hz; omega) r hr
 rwa [mkG_length] at this
theorem big30:(10:Nat)^30=1000000000000000000000000000000:=by decide
theorem tuL_sz {A B:Nat→Nat→Int} {np k:Nat} {M:Mx} {x:List Int} (hk:k≤4) (h:tuE np M x=0):szE (tuL np M (mkG A B np k) x)=0:=by
 refine szE_sh fun r hr=>(tuL_tw (tuE_zero h).2 r hr).sm ?_
 have h1:k*(480*1000000000)≤4*(480*1000000000):=Nat.mul_le_mul_right _ hk
 have:=big30
 omega
theorem of_yes {w w':World} {np:Nat} {M:Mx} {G:List (List Rat)} {x:List Int} {e:Ending} (h:OfPost w np M G x e w') (h0:tuE np M x=0) (hs:szE (tuL np M G x)=0):(∃ g,e = .returned (.tuple #[slv g np np,.int .i64 0])∧SzO w.heap.size w' g (tuL np M G x))∧Ext w w':=by
 obtain ⟨h1,⟨h2,_⟩ | ⟨_,h2,_⟩ | ⟨_,_,h2⟩⟩:=h
 ·exact absurd h0 h2
 ·exact absurd hs h2
 ·exact ⟨h2,h1⟩
end Go.Proofs.YtjnpakablgommaaGreatDoor
namespace Go.Proofs.YtjnpakablgommaaGreatDoor
theorem sumR_add2 (f g h:Nat→Rat) (e : ∀ i,h i=f i+g i) : ∀ k,sumR h k=sumR f k+sumR g k
 | 0=>by simp [sumR]; grind
 | k+1=>by
  rw [sumR,sumR,sumR,sumR_add2 f g h e k,e]
  grind
theorem nbL_getD (l:List Int) (k:Nat):(nbL l).getD k 0=((l.getD k 0:Int):Rat):=by
 unfold nbL
 rw [List.getD_eq_getElem?_getD,List.getD_eq_getElem?_getD,List.getElem?_map]
 cases l[k]? <;> rfl
theorem tuL_get {np:Nat} {M:Mx} {G:List (List Rat)} {x:List Int} {c:Nat} (h:c<(tuL np M G x).length):(tuL np M G x)[c]=sumR (cmbF G (nbL (tmpL M x)) c) G.length:=cmbQ_get (l:=G) (fs:=nbL (tmpL M x)) (n:=np) h
theorem tuL_zero {x:List Int} {np:Nat} {M:Mx} {G:List (List Rat)} (h : ∀ v∈M,tmpE x v=0):tuL np M G x=List.replicate np 0:=by
 refine List.ext_getElem (by simp [tuL]) fun c h1 h2 => ?_
 rw [List.getElem_replicate,tuL_get]
 have e : ∀ k,cmbF G (nbL (tmpL M x)) c k=0:=fun k=>by
  unfold cmbF
  rw [nbL_getD]
  have:(tmpL M x).getD k 0=0:=by
   unfold tmpL
   rw [List.getD_eq_getElem?_getD,List.getElem?_map]
   cases hk:M[k]? with
   | none=>rfl
   | some v=>exact h v (List.mem_of_getElem? hk)
  rw [this]
  show _*(0:Rat)=0
  grind
 generalize G.length=m
 induction m with
 | zero=>rfl
 | succ m ih=>rw [sumR,ih,e]; grind
end Go.Proofs.YtjnpakablgommaaGreatDoor
namespace Go.Proofs.YtjnpakablgommaaGreatDoor
open Go.RowKit Go.Sort
theorem lap_sum {x v:List Int} (hx : ∀ z∈x,z.natAbs≤18) (hv : ∀ z∈v,z.natAbs≤1000000) : ∀ k,(sumZ (fun i=>x.getD i 0*v.getD i 0) k).natAbs≤k*18000000
 | 0=>by simp [sumZ]
 | k+1=>by
  have h1:=lap_sum hx hv k
  have h2:(x.getD k 0*v.getD k 0).natAbs≤18000000:=by
   rw [Int.natAbs_mul]
   have a1:(x.getD k 0).natAbs≤18:=by
    rw [List.getD_eq_getElem?_getD]
    rcases Nat.lt_or_ge k x.length with h | h
    ·rw [List.getElem?_eq_getElem h]; exact hx _ (List.getElem_mem h)
    ·rw [List.getElem?_eq_none h]; simp
   have a2:(v.getD k 0).natAbs≤1000000:=by
    rw [List.getD_eq_getElem?_getD]
    rcases Nat.lt_or_ge k v.length with h | h
    ·rw [List.getElem?_eq_getElem h]; exact hv _ (List.getElem_mem h)
    ·rw [List.getElem?_eq_none h]; simp
   exact Nat.le_trans (Nat.mul_le_mul a1 a2) (by decide)
  rw [sumZ]; omega
theorem tuE_small {P:List Int} {C M:Mx} {x:List Int} (h:TmOK P C M) (hl:x.length=P.length) (hx : ∀ z∈x,z.natAbs≤18):tuE P.length M x=0:=by
 unfold tuE
 have h1:mzE P.length x=0:=by
  unfold mzE
  rw [if_pos hl,if_pos]
  unfold mzS
  rw [List.all_eq_true]
  intro z hz
  have:=hx z hz
  simp
  omega
 have h2:smallB (tmpL M x)=true:=by
  rw [smallB_iff]
  intro z hz
  obtain ⟨v,hv,rfl⟩:=List.mem_map.1 hz
  have h3:=lap_sum hx (h.bM v hv) x.length
  have h4:=h.p4
  have h5:x.length*18000000≤4*18000000:=Nat.mul_le_mul_right _ (by omega)
  unfold tmpE
  omega
 rw [if_pos h1,if_pos h2]
theorem tmp_comma {P:List Int} {C M:Mx} (h:TmOK P C M) {c:List Int} (hc:c∈C) : ∀ v∈M,tmpE c v=0:=fun v hv=>by
 obtain ⟨psC,hIC⟩:=h.kC.1
 have hl:c.length=P.length:=hIC.rect c hc
 have:=h.kM.dot (v:=vr c) (y:=vr v) (List.mem_map.2 ⟨c,hc,rfl⟩) (.mem (List.mem_map.2 ⟨v,hv,rfl⟩))
 unfold tmpE
 rw [hl]
 exact this
end Go.Proofs.YtjnpakablgommaaGreatDoor
