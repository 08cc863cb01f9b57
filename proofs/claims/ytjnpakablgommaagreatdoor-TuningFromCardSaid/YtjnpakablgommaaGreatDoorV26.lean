/- Part 26 of the proof of the claim: contracts of the functions that it reaches, and plain laws; no condition. -/
import Derived.Test.YtjnpakablgommaaGreatDoorV25
import Derived.Test.YtjnpakablgommaaGreatDoorV24
import Derived.Test.YtjnpakablgommaaGreatDoorV14
import Derived.Test.YtjnpakablgommaaGreatDoorV15
import Derived.Test.YtjnpakablgommaaGreatDoorV09
set_option maxRecDepth 100000
namespace Go.Proofs.YtjnpakablgommaaGreatDoor
open Go.RowKit Go.Sort
theorem mat_kept2 {B B':Nat} {w w':World} {T':TypeId} {size' n':Nat} {u v:Value} {F:Mx} {ys:List Value} (h:MatO B w u F) (h':w.ownsRow B' T' size' v n' ys) (h1:30≠T') (h2:3≠T') (hg:w.grownBy w' v.ownBlock):MatO B w' u F:=by
 obtain ⟨vs,k1,k2,k3⟩:=h
 exact ⟨vs,k1,own_kept k2 h' h1 hg,fun t ht ht'=>own_kept (k3 t ht ht') h' h2 hg⟩
theorem box_kept {B B':Nat} {w w':World} {T:TypeId} {g c:Nat} {xs:List Value} {v:Value} {F:Mx} (h:OwnV T B w g c xs) (hM:MatO B' w v F) (h1:T≠30) (hg:w.grownBy w' v.ownBlock):OwnV T B w' g c xs:=by
 obtain ⟨vs,k1,k2,k3⟩:=hM
 exact own_kept h k2 h1 hg
theorem RowO.rowV {B:Nat} {w:World} {v:Value} {r:List Int} (h:RowO B w v r):RowV B w v r:=by
 obtain ⟨g,cap,rfl,ho⟩:=h
 unfold OwnV at ho
 unfold RowV
 simpa using ho
theorem lat_alloc (w:World) (T:TypeId) (a b:Value):OwnV T w.heap.size (w.alloc (.cells #[a,b] T)) w.heap.size 2 [a,b] :=
 OwnV.of (Nat.le_refl _) Array.getElem?_push_size (by simp) (by unfold maxLen; omega) rfl rfl
theorem lat_alloc2 (w:World) (o:Obj) (T:TypeId) (a b:Value):OwnV T w.heap.size ((w.alloc o).alloc (.cells #[a,b] T)) (w.heap.size+1) 2 [a,b] :=
 OwnV.of (by omega) (by
  have h:((w.alloc o).heap.push (.cells #[a,b] T))[(w.alloc o).heap.size]? = some (.cells #[a,b] T):=Array.getElem?_push_size
  rw [show (w.alloc o).heap.size=w.heap.size+1 by simp] at h
  exact h) (by simp) (by unfold maxLen; omega) rfl rfl
theorem lat_end {T:TypeId} {g:Nat} {w W:World} {a b:Value} (hE:Ext w W) (hg:w.heap.size≤g) (h:OwnV T w.heap.size W g 2 [a,b]) (c d:Value) :
  W.cell? ⟨g,0,none⟩=some a∧W.cell? ⟨g,1,none⟩=some b∧W.frozen? ⟨g,0,none⟩=false∧W.frozen? ⟨g,1,none⟩=false ∧
   ((W.setCell ⟨g,0,none⟩ c).setCell ⟨g,1,none⟩ d).cell? ⟨g,0,none⟩=some c∧((W.setCell ⟨g,0,none⟩ c).setCell ⟨g,1,none⟩ d).cell? ⟨g,1,none⟩=some d ∧
   Hid (Ext w ((W.setCell ⟨g,0,none⟩ c).setCell ⟨g,1,none⟩ d))∧W.grownBy ((W.setCell ⟨g,0,none⟩ c).setCell ⟨g,1,none⟩ d) (some g):=by
 obtain ⟨h1,g1⟩:=h.set 0 c
 obtain ⟨h2,g2⟩:=h1.set 1 d
 exact ⟨h.cell (j:=0) (by simp),h.cell (j:=1) (by simp),h.frozen 0,h.frozen 1,h2.cell (j:=0) (by simp),h2.cell (j:=1) (by simp),Lib.hid (ext_trans_grown hE (grown_trans g1 g2) hg),grown_trans g1 g2⟩
abbrev latv (n:Nat) (v:Value):Value := .agg #[.int .i64 n,v]
def LshPost (w:World) (K:Mx) (n:Nat) (e:Ending) (w':World):Prop := ∃ v',e = .returned (.tuple #[latv n v',.int .i64 0])∧MatO w.heap.size w' v' K∧Ext w w'
set_option maxHeartbeats 2000000 in
theorem lsshort_ok {w:World} {v:Value} {K:Mx} {n:Nat} (hK:LgsR w v K) (hR:Rect n K) (hn:n≤1000000) (hl:K.length≤1000000) (hs : ∀ r∈K,smallB r=true) (hb : ∀ r∈K,∀ z∈r,nd z≤LIM) (hL:Laid w) :
  Calls Tryz.prog 196 #[v,.int .i64 n] w (LshPost w K n):=by
 obtain ⟨sa,gb,go,cap,vs,rfl,hcap,hvl,hS,hr⟩:=hK
 have HS:=Lib.hid hS
 have HV:=Lib.hid hvl
 have HR:=Lib.hid hr
 have HRe:=Lib.hid hR
 have Hs:=Lib.hid hs
 have Hb:=Lib.hid hb
 have HL:=Lib.hid hL
 have hX:Ext w ((w.alloc (.cells #[.int .i64 0,.slice none 0 0] 204)).alloc (.cells #[.int .i64 n,.slice none 0 0] 204)):=((Ext.refl w).alloc _).alloc _
 have H4:=Lib.hid ((lat_alloc w 204 (.int .i64 0) (.slice none 0 0)).ext ((Ext.refl _).alloc (.cells #[.int .i64 n,.slice none 0 0] 204)))
 have H6:=Lib.hid (lat_alloc2 w (.cells #[.int .i64 0,.slice none 0 0] 204) 204 (.int .i64 n) (.slice none 0 0))
 obtain ⟨b4,hb4⟩ : ∃ b4,b4=w.heap.size:=⟨_,rfl⟩
 obtain ⟨b6,hb6⟩ : ∃ b6,b6=w.heap.size+1:=⟨_,rfl⟩
 rw [← hb6] at H6
 have h4B:w.heap.size≤b4:=by omega
 have h6B:w.heap.size≤b6:=by omega
 have hne46:b4≠b6:=by omega
 clear hS hvl hr hR hs hb hL
 go_enter Tryz.func196,Tryz.ntmps196
 go_wp2_with fail
 generalize hW1:World.alloc (World.alloc w _) _=W1 at *
 rw [← hb6, ← hb4]
 rw [show OwnV 204 w.heap.size W1 w.heap.size 2 [.int .i64 0,.slice none 0 0]=OwnV 204 w.heap.size W1 b4 2 [.int .i64 0,.slice none 0 0] by rw [hb4]] at H4
 have Hb4:=Lib.hid hb4
 clear hW1 hb6 hb4
 go_loopw [15] (fun idx wr => ∃ (i:Nat) (vv:Value),i≤K.length∧idx = .int .i64 i∧Hid (OwnV 204 w.heap.size wr b6 2 [.int .i64 n,vv])∧Hid (OwnV 204 w.heap.size wr b4 2 [.int .i64 0,.slice none 0 0])∧Hid (MatO w.heap.size wr vv (K.take i))∧Ext w wr) (fun idx _=>K.length-(intOf idx).toNat)
 case atStart=>exact ⟨0,.slice none 0 0,by omega,by go_num,H6,H4,Lib.hid (MatO.nil _ _),hX⟩
 case round =>
  clear H6 H4 hX
  obtain ⟨i,vv,hi,rfl,H6,H4,HM,hE⟩:=hrel
  generalize wr=X at *
  by_cases hlt:i<K.length
  ·have hii:(i:Int)<(K.length:Int):=by omega
   obtain rfl:=HS.out.addr (by rw [HV.out]; omega)
   obtain ⟨sr,br,or,cr,hrow,hrc,hSr⟩:=LgsR.row HS.out HV.out HR.out hlt
   have hrl:K[i].length=n:=HRe.out _ (List.getElem_mem hlt)
   have hsm:=Hs.out _ (List.getElem_mem hlt)
   have hbd:=Hb.out _ (List.getElem_mem hlt)
   have Hsn:=Lib.hid (take_snocM hlt)
   have Hil:=Lib.hid (show (K.take i).length=i by rw [List.length_take]; omega)
   obtain ⟨r,hr⟩ : ∃ r,r=K[i]:=⟨_,rfl⟩
   rw [← hr] at hrow hrc hSr hrl hsm hbd Hsn
   have hsh:=lshort_any (w:=X) (cap:=cr) (hSr.ext hE) (by rw [hrl]; exact hn) hbd (HL.out.ext hE)
   unfold SmlPost at hsh
   simp only [hsm,if_true] at hsh
   rw [hrl] at hsh hrow
   have Hsh:=Lib.hid hsh
   have hrow':=hE.cell hrow
   have hXs:=hE.size
   have Hrl:=Lib.hid hrl
   clear hrow hrc hSr hsm hbd hr hsh hrl
   go_wp2_with fail
   refine Hsh.out.mono ?_
   rintro e W ⟨⟨v1,rfl,hv1⟩,hE2⟩
   have Hv1:=Lib.hid hv1.rowV
   obtain ⟨g1,c1,hv1e,_⟩:=hv1
   have H6W:=Lib.hid (H6.out.ext hE2)
   have H4W:=Lib.hid (H4.out.ext hE2)
   have HMW:=Lib.hid (HM.out.ext hE2)
   have hEW:=hE.trans hE2
   have q1:W.cell? ⟨b6,1,none⟩=some vv:=H6W.out.cell (j:=1) (by simp)
   have q0:W.cell? ⟨b6,0,none⟩=some (.int .i64 n):=H6W.out.cell (j:=0) (by simp)
   have hb6W:=H6W.out.lt
   have hEs:=hEW.size
   subst hv1e
   clear H6 H4 HM Hsh
   go_wp2_with (at_builtin; refine app_mat rfl _ _ rfl (B:=w.heap.size) rfl (HMW.out.ext ((Ext.refl _).alloc _)) rfl (b:=W.heap.size) (rv:=slv g1 r.length c1) (r:=r) (by go_simp) ((Hv1.out.mono hXs).ext ((Ext.refl _).alloc _)) (by rw [Hil.out]; omega) (by simp; omega) ?_; intro gg cap2 w8 hO8 hB8 hG8; have h68:=Lib.hid (box_kept (H6W.out.ext ((Ext.refl _).alloc _)) (HMW.out.ext ((Ext.refl _).alloc _)) (by decide) hG8); have h48:=Lib.hid (box_kept (H4W.out.ext ((Ext.refl _).alloc _)) (HMW.out.ext ((Ext.refl _).alloc _)) (by decide) hG8); have p1:w8.cell? ⟨b6,1,none⟩=some vv:=h68.out.cell (j:=1) (by simp); have p2:=h68.out.frozen 1; rw [Hil.out, ← Hsn.out] at hO8; rw [Hil.out])
   have hE8:Ext w w8:=Below.trans (hEW.alloc _) hB8
   obtain ⟨h69,hg9⟩:=h68.out.set 1 (slv gg (i+1) cap2)
   have hO9:=mat_kept2 hO8 h68.out (by decide) (by decide) hg9
   have h49:=h48.out.other hg9 hne46
   have hE9:=ext_trans_grown hE8 hg9 h6B
   have H69:=Lib.hid (show OwnV 204 w.heap.size _ b6 2 [.int .i64 n,slv gg (i+1) cap2] from h69)
   have H49:=Lib.hid h49
   have HO9:=Lib.hid hO9
   clear h69 h49 hO9 hg9 hO8 h68 h48 hG8 hB8 p1 p2
   go_wp2_with fail
   go_roundw
   case rel=>exact ⟨i+1,_,by omega,by go_num,H69,H49,HO9,hE9⟩
   case measure=>simp [intOf] <;> omega
  ·have hie:i=K.length:=by omega
   subst hie
   have HF:=Lib.hid (show MatO w.heap.size X vv K by have:=HM.out; rw [List.take_length] at this; exact this)
   obtain ⟨xa,xl,xk,rfl⟩ : ∃ a l k,vv = .slice a l k:=by
    obtain ⟨vs0,_,h2,_⟩:=HF.out
    rcases h2.2 with ⟨rfl,_⟩ | ⟨g,cap,cur,rfl,_⟩
    ·exact ⟨_,_,_,rfl⟩
    ·exact ⟨_,_,_,rfl⟩
   clear HM
   have q0:X.cell? ⟨b6,0,none⟩=some (.int .i64 n):=H6.out.cell (j:=0) (by simp)
   have q1:X.cell? ⟨b6,1,none⟩=some (.slice xa xl xk):=H6.out.cell (j:=1) (by simp)
   obtain ⟨p0,p1,f0,f1,r0,r1,hF,hG⟩:=lat_end hE h4B H4.out (.int .i64 n) (.slice xa xl xk)
   have HMf:=Lib.hid (mat_kept2 HF.out H4.out (by decide) (by decide) hG)
   have Hres:=Lib.hid (show LshPost w K n (.returned (.tuple #[latv n (.slice xa xl xk),.int .i64 0])) _ from ⟨_,rfl,HMf.out,hF.out⟩)
   clear hG HMf
   go_wp2_with fail
   refine bodyPost_ret (v := .tuple #[latv n (.slice xa xl xk),.int .i64 0]) (by simp [results,Tryz.results196,go_sem,r0,r1]) rfl Hres.out
theorem fits_any (z:Int) (w:World):Calls Tryz.prog 131 #[.int .i64 z] w fun e w'=>e = .returned (.bool (!grt z))∧w'=w:=by
 by_cases h1:z < -1000000000
 ·have hg:grt z=true:=decide_eq_true (.inr h1)
  rw [hg]; clear hg
  go_enter Tryz.func131,Tryz.ntmps131
  go_wp2
  go_ret
  exact ⟨rfl,rfl⟩
 ·have h2 : -1000000000≤z:=by omega
  by_cases h3:z≤1000000000
  ·have hg:grt z=false:=decide_eq_false (by omega)
   rw [hg]; clear hg
   go_enter Tryz.func131,Tryz.ntmps131
   go_wp2
   go_ret
   exact ⟨rfl,rfl⟩
  ·have h4:1000000000<z:=by omega
   have hg:grt z=true:=decide_eq_true (.inl h4)
   have hd:decide (z≤1000000000)=false:=decide_eq_false h3
   rw [hg]; clear hg h3
   go_enter Tryz.func131,Tryz.ntmps131
   go_wp2
   go_ret
   exact ⟨rfl,rfl⟩
theorem rowCheckC_any (z:Int) (w:World):Calls Tryz.prog 130 #[.int .i64 z] w fun e w'=>e = .returned (.bool (grt z))∧Ext w w':=by
 have hf:=Lib.hid (fits_any z)
 obtain ⟨b,hb⟩ : ∃ b,b=grt z:=⟨_,rfl⟩
 rw [← hb] at hf ⊢
 clear hb
 go_enter Tryz.func130,Tryz.ntmps130
 go_wp2_with fail
 refine (hf.out _).mono ?_
 rintro e W ⟨rfl,hw⟩
 have hE:Ext w W:=by rw [hw]; exact Ext.refl _
 clear hw
 go_wp2_with fail
 go_ret
 exact ⟨by simp,hE⟩
def chkRow (x:List Int):Int:=if 64<x.length then 4 else if x.any grt then 4 else 0
theorem chkRow_ok {x:List Int} (h:chkRow x=0):x.length≤64 ∧ ∀ z∈x,-1000000000≤z∧z≤1000000000:=by
 unfold chkRow at h
 split at h
 ·cases h
 ·split at h
  ·cases h
  ·rename_i h1 h2
   refine ⟨by omega,fun z hz => ?_⟩
   have:grt z=false:=by
    cases hg:grt z
    ·rfl
    ·exact absurd (List.any_eq_true.2 ⟨z,hz,hg⟩) h2
   unfold grt at this
   have:=of_decide_eq_false this
   omega
theorem rowCheck_any {w:World} {v:Value} {x:List Int} (hR:RowR w v x) :
  Calls Tryz.prog 70 #[v] w fun e w'=>e = .returned (.int .i64 (chkRow x))∧Ext w w':=by
 obtain ⟨sa,gb,go,cap,rfl,hc,hS⟩:=hR
 by_cases h:64<x.length
 ·have hi:(64:Int)<(x.length:Int):=by omega
  have he:chkRow x=4:=by unfold chkRow; rw [if_pos h]
  rw [he]
  clear he hS
  go_enter Tryz.func70,Tryz.ntmps70
  go_wp2_with fail
  go_ret
  exact ⟨rfl,Ext.refl _⟩
 ·have hi:(x.length:Int)≤64:=by omega
  have hcn:=contains_rowCheck (cap:=cap) (p:=fun i=>grt (x.getD i 0)) hS (by simp; omega) (fun k hk W hW=>by
   have hk':k<x.length:=by simpa using hk
   have e:(is x)[k] = .int .i64 (x.getD k 0):=by rw [getD_get hk']; simp [is]
   rw [e]; exact rowCheckC_any _ W)
  rw [is_length,any_grt] at hcn
  have he:chkRow x=if x.any grt then 4 else 0:=by unfold chkRow; rw [if_neg h]
  rw [he]
  have Hcn:=Lib.hid hcn
  clear he hcn hS h
  cases hg:x.any grt
  ·rw [hg] at Hcn
   clear hg
   go_enter Tryz.func70,Tryz.ntmps70
   go_wp2_with fail
   refine Hcn.out.mono ?_
   rintro e W ⟨rfl,hW⟩
   go_wp2_with fail
   go_ret
   exact ⟨rfl,hW⟩
  ·rw [hg] at Hcn
   clear hg
   go_enter Tryz.func70,Tryz.ntmps70
   go_wp2_with fail
   refine Hcn.out.mono ?_
   rintro e W ⟨rfl,hW⟩
   go_wp2_with fail
   go_ret
   exact ⟨rfl,hW⟩
theorem ncols_row {w:World} {sa:Option Addr} {gb go:Nat} {vs:List Value} {M:Mx} (hS:Sl w sa gb go vs) (hl:vs.length=M.length) (hr : ∀ i (h:i<M.length) (h':i<vs.length),RowR w vs[i] M[i]) (h0:0<M.length) :
  ∃ s0 c0,sa=some ⟨gb,go,none⟩∧w.cell? ⟨gb,go,none⟩=some (.slice s0 (ncols M) c0):=by
 obtain ⟨s0,b0,o0,c0,hrow0,_,_⟩:=MatR.row hS hl hr h0
 have hn:M[0].length=ncols M:=by unfold ncols; rw [getD_get h0]
 rw [hn,Nat.add_zero] at hrow0
 exact ⟨s0,c0,hS.addr (by omega),hrow0⟩
theorem CheckAll_ok {w:World} {v:Value} {F:Mx} {n:Nat} (hM:MatR w v F) (hF : ∀ r∈F,chkRow r=0∧r.length=n) (hl:F.length≤1000) :
  Calls Tryz.prog 244 #[v,.int .i64 n] w fun e w'=>e = .returned (.int .i64 0)∧Ext w w':=by
 obtain ⟨sa,gb,go,cap,vs,rfl,hcap,hvl,hS,hr⟩:=hM
 have HS:=Lib.hid hS
 have HV:=Lib.hid hvl
 have HR:=Lib.hid hr
 have HF:=Lib.hid hF
 clear hS hvl hr hF
 go_enter Tryz.func244,Tryz.ntmps244
 go_wp2_with fail
 go_loopw [10] (fun idx wr => ∃ i:Nat,i≤F.length∧idx = .int .i64 i∧Ext w wr) (fun idx _=>F.length-(intOf idx).toNat)
 case atStart=>exact ⟨0,by omega,by go_num,Ext.refl _⟩
 case round =>
  obtain ⟨i,hi,rfl,hE⟩:=hrel
  generalize wr=X at *
  by_cases hlt:i<F.length
  ·have hii:(i:Int)<(F.length:Int):=by omega
   obtain rfl:=HS.out.addr (by rw [HV.out]; omega)
   obtain ⟨sr,br,or,cr,hrow,hrc,hSr⟩:=MatR.row HS.out HV.out HR.out hlt
   obtain ⟨h1,h2⟩:=HF.out _ (List.getElem_mem hlt)
   have hch:=Lib.hid (rowCheck_any (w:=X) (v := .slice sr F[i].length cr) (x:=F[i]) ⟨sr,br,or,cr,rfl,hrc,hSr.ext hE⟩)
   rw [h1] at hch
   rw [h2] at hch hrow
   have hrow':=hE.cell hrow
   clear hrow hrc hSr h1 h2
   go_wp2_with fail
   refine hch.out.mono ?_
   rintro e W ⟨rfl,hW⟩
   go_wp2_with fail
   go_roundw
   case rel=>exact ⟨i+1,by omega,by go_num,hE.trans hW⟩
   case measure=>simp [intOf] <;> omega
  ·have hii : ¬ (i:Int)<(F.length:Int):=by omega
   go_wp2_with fail
   go_ret
   exact ⟨rfl,hE⟩
set_option maxHeartbeats 1000000 in
theorem index_pivot {w:World} {sa:Option Addr} {gb go cap:Nat} {vs:List Value} {p:Nat→Bool} {k:Int} (hS:Sl w sa gb go vs) (hl:vs.length≤1000000)
  (hF : ∀ i (h:i<vs.length) W,Ext w W→Calls Tryz.prog 312 #[vs[i]] W fun e w'=>e = .returned (.bool (p i))∧Ext W w') (hk:IxR p vs.length k) :
  Calls Tryz.prog 192 #[.slice sa vs.length cap,.func (.func 312) #[] #[]] w fun e w'=>e = .returned (.int .i64 k)∧Ext w w':=by
 have HF:=Lib.hid hF
 have HK:=Lib.hid hk
 have HS:=Lib.hid hS
 clear hF hk hS
 go_enter Tryz.func192,Tryz.ntmps192
 go_wp2_with fail
 go_loopw [8] (fun idx wr => ∃ i:Nat,i≤vs.length∧idx = .int .i64 i∧Hid (∀ j,j<i→p j=false)∧Ext w wr) (fun idx _=>vs.length-(intOf idx).toNat)
 case atStart=>exact ⟨0,by omega,by go_num,Lib.hid (fun j h=>by omega),Ext.refl _⟩
 case round =>
  obtain ⟨i,hi,rfl,Hp,hE⟩:=hrel
  generalize wr=X at *
  by_cases hlt:i<vs.length
  ·have hii:(i:Int)<(vs.length:Int):=by omega
   obtain ⟨u,hu⟩ : ∃ u,u=vs[i]:=⟨_,rfl⟩
   have hc:=hE.cell (HS.out.cell i u (by rw [hu]; exact List.getElem?_eq_getElem hlt))
   obtain rfl:=HS.out.addr (by omega)
   have hf:=HF.out i hlt X hE
   rw [← hu] at hf
   have Hf:=Lib.hid hf
   clear hf hu
   cases hpi:p i
   ·rw [hpi] at Hf
    have Hpi:=Lib.hid hpi
    clear hpi
    go_wp2_with fail
    refine Hf.out.mono ?_
    rintro e W ⟨rfl,hE2⟩
    go_wp2_with fail
    go_roundw
    case rel=>exact ⟨i+1,by omega,by go_num,Lib.hid (fun j hj=>by
     by_cases e:j=i
     ·subst e; exact Hpi.out
     ·exact Hp.out j (by omega)),hE.trans hE2⟩
    case measure=>simp [intOf] <;> omega
   ·rw [hpi] at Hf
    have Hki:=Lib.hid (IxR_at HK.out hlt hpi Hp.out)
    clear hpi
    go_wp2_with fail
    refine Hf.out.mono ?_
    rintro e W ⟨rfl,hE2⟩
    go_wp2_with fail
    go_ret
    exact ⟨by rw [Hki.out]; rfl,hE.trans hE2⟩
  ·have Hki:=Lib.hid (IxR_no HK.out (fun j hj=>Hp.out j (by omega)))
   go_wp2_with fail
   go_ret
   exact ⟨by rw [Hki.out]; rfl,hE⟩
set_option maxHeartbeats 1000000 in
theorem index_isForm {w:World} {sa:Option Addr} {gb go cap:Nat} {c1 c2:Value} {vs:List Value} {p:Nat→Bool} {k:Int} (hS:Sl w sa gb go vs) (hl:vs.length≤1000000)
  (hF : ∀ i (h:i<vs.length) W,Ext w W→Calls Tryz.prog 295 #[vs[i],c1,c2] W fun e w'=>e = .returned (.bool (p i))∧Ext W w') (hk:IxR p vs.length k) :
  Calls Tryz.prog 313 #[.slice sa vs.length cap,.func (.func 295) #[] #[c1,c2]] w fun e w'=>e = .returned (.int .i64 k)∧Ext w w':=by
 have HF:=Lib.hid hF
 have HK:=Lib.hid hk
 have HS:=Lib.hid hS
 clear hF hk hS
 go_enter Tryz.func313,Tryz.ntmps313
 go_wp2_with fail
 go_loopw [8] (fun idx wr => ∃ i:Nat,i≤vs.length∧idx = .int .i64 i∧Hid (∀ j,j<i→p j=false)∧Ext w wr) (fun idx _=>vs.length-(intOf idx).toNat)
 case atStart=>exact ⟨0,by omega,by go_num,Lib.hid (fun j h=>by omega),Ext.refl _⟩
 case round =>
  obtain ⟨i,hi,rfl,Hp,hE⟩:=hrel
  generalize wr=X at *
  by_cases hlt:i<vs.length
  ·have hii:(i:Int)<(vs.length:Int):=by omega
   obtain ⟨u,hu⟩ : ∃ u,u=vs[i]:=⟨_,rfl⟩
   have hc:=hE.cell (HS.out.cell i u (by rw [hu]; exact List.getElem?_eq_getElem hlt))
   obtain rfl:=HS.out.addr (by omega)
   have hf:=HF.out i hlt X hE
   rw [← hu] at hf
   have Hf:=Lib.hid hf
   clear hf hu
   cases hpi:p i
   ·rw [hpi] at Hf
    have Hpi:=Lib.hid hpi
    clear hpi
    go_wp2_with fail
    refine Hf.out.mono ?_
    rintro e W ⟨rfl,hE2⟩
    go_wp2_with fail
    go_roundw
    case rel=>exact ⟨i+1,by omega,by go_num,Lib.hid (fun j hj=>by
     by_cases e:j=i
     ·subst e; exact Hpi.out
     ·exact Hp.out j (by omega)),hE.trans hE2⟩
    case measure=>simp [intOf] <;> omega
   ·rw [hpi] at Hf
    have Hki:=Lib.hid (IxR_at HK.out hlt hpi Hp.out)
    clear hpi
    go_wp2_with fail
    refine Hf.out.mono ?_
    rintro e W ⟨rfl,hE2⟩
    go_wp2_with fail
    go_ret
    exact ⟨by rw [Hki.out]; rfl,hE.trans hE2⟩
  ·have Hki:=Lib.hid (IxR_no HK.out (fun j hj=>Hp.out j (by omega)))
   go_wp2_with fail
   go_ret
   exact ⟨by rw [Hki.out]; rfl,hE⟩
theorem contains_isForm {w:World} {sa:Option Addr} {gb go cap:Nat} {c1 c2:Value} {vs:List Value} {p:Nat→Bool} (hS:Sl w sa gb go vs) (hl:vs.length≤1000000)
  (hF : ∀ i (h:i<vs.length) W,Ext w W→Calls Tryz.prog 295 #[vs[i],c1,c2] W fun e w'=>e = .returned (.bool (p i))∧Ext W w') :
  Calls Tryz.prog 294 #[.slice sa vs.length cap,.func (.func 295) #[] #[c1,c2]] w fun e w'=>e = .returned (.bool (anyB p vs.length))∧Ext w w':=by
 obtain ⟨k,hk⟩:=IxR_ex p vs.length
 have Hge:=Lib.hid (IxR_ge hk)
 have HI:=Lib.hid (index_isForm (cap:=cap) hS hl hF hk)
 clear hS hF hk
 go_enter Tryz.func294,Tryz.ntmps294
 go_wp2_with fail
 refine HI.out.mono ?_
 rintro e W ⟨rfl,hE⟩
 go_wp2_with fail
 go_ret
 exact ⟨by rw [← Hge.out]; rfl,hE⟩
theorem pivotC_any (z:Int) (w:World):Calls Tryz.prog 312 #[.int .i64 z] w fun e w'=>e = .returned (.bool (decide (z≠0)))∧Ext w w':=by
 by_cases h:z=0
 ·subst h
  go_enter Tryz.func312,Tryz.ntmps312
  go_wp2
  go_ret
  exact ⟨rfl,Ext.refl _⟩
 ·have hb:decide (z≠0)=true:=decide_eq_true h
  rw [hb]
  have h1:(z==0)=false:=beq_eq_false_iff_ne.2 h
  have h2:(z != 0)=true:=by simp [bne,h1]
  clear hb
  go_enter Tryz.func312,Tryz.ntmps312
  go_wp2
  go_ret
  exact ⟨rfl,Ext.refl _⟩
theorem pivot_any {w:World} {v:Value} {r:List Int} (hR:RowR w v r) (hl:r.length≤1000000) :
  Calls Tryz.prog 293 #[v] w fun e w'=>e = .returned (.int .i64 (pvI r))∧Ext w w':=by
 obtain ⟨sa,gb,go,cap,rfl,hc,hS⟩:=hR
 have hI:=index_pivot (cap:=cap) (p:=fun i=>decide (r.getD i 0≠0)) (k:=pvI r) hS (by simpa using hl) (fun i h W hW=>by
  have hi:i<r.length:=by simpa using h
  have e:(is r)[i] = .int .i64 (r.getD i 0):=by rw [getD_get hi]; simp [is]
  rw [e]
  exact pivotC_any _ W) (by rw [is_length]; exact pvI_ix r)
 rw [is_length] at hI
 have HI:=Lib.hid hI
 clear hI hS
 go_enter Tryz.func293,Tryz.ntmps293
 go_wp2_with fail
 refine HI.out.mono ?_
 rintro e W ⟨rfl,hE⟩
 go_wp2_with fail
 go_ret
 exact ⟨rfl,hE⟩
set_option maxHeartbeats 1000000 in
theorem isFormC_any {w:World} {sa sr:Option Addr} {gb go cap gr or cr bp br p n:Nat} {x r:List Int} (hS:Sl w sa gb go (is x)) (hR:Sl w sr gr or (is r)) (hx:x.length=n) (hr:r.length=n) (hn:n≤1000000) (hp:p<n)
  (c1:w.cell? ⟨bp,0,none⟩=some (.int .i64 p)) (c2:w.cell? ⟨br,0,none⟩=some (.slice sr n cr)) :
  Calls Tryz.prog 295 #[.slice sa n cap,.pointer (some ⟨bp,0,none⟩),.pointer (some ⟨br,0,none⟩)] w fun e w'=>e = .returned (.bool (decide (x.getD p 0<0)||decide (r.getD p 0≤x.getD p 0)))∧Ext w w':=by
 have hpi:(p:Int)<(n:Int):=by omega
 have hp0:(0:Int)≤(p:Int):=by omega
 obtain rfl:=hS.addr (by simp; omega)
 obtain rfl:=hR.addr (by simp; omega)
 have cx:=hS.cell p _ (is_get (by omega))
 have cr':=hR.cell p _ (is_get (by omega))
 rw [getD_get (by omega),getD_get (by omega)]
 generalize x[p]=a at *
 generalize r[p]=b at *
 clear hS hR hx hr
 by_cases h:a<0
 ·have e1:decide (a<0)=true:=decide_eq_true h
  rw [e1,Bool.true_or]
  go_enter Tryz.func295,Tryz.ntmps295
  go_wp2_with fail
  go_quiet (fail)
  go_wp2_with fail
  go_ret
  exact ⟨rfl,(Ext.refl _).drewN _⟩
 ·have e1:decide (a<0)=false:=decide_eq_false h
  rw [e1,Bool.false_or]
  have h0:0≤a:=by omega
  clear h
  by_cases h2:b≤a
  ·have e2:decide (b≤a)=true:=decide_eq_true h2
   rw [e2]
   go_enter Tryz.func295,Tryz.ntmps295
   go_wp2_with fail
   go_quiet (fail)
   go_wp2_with fail
   go_ret
   exact ⟨rfl,(Ext.refl _).drewN _⟩
  ·have e2:decide (b≤a)=false:=decide_eq_false h2
   rw [e2]
   have h3:a<b:=by omega
   go_enter Tryz.func295,Tryz.ntmps295
   go_wp2_with fail
   go_quiet (fail)
   go_wp2_with fail
   go_ret
   exact ⟨rfl,(Ext.refl _).drewN _⟩
def bad (M:Mx) (i k:Nat):Bool:=decide (eM M k (pv (M.getD i []))<0)||decide (eM M i (pv (M.getD i []))≤eM M k (pv (M.getD i [])))
def bef (M:Mx) (i:Nat):Int:=if i=0 then -1 else pvI (M.getD (i-1) [])
def rowOk (M:Mx) (i:Nat):Bool:=decide (bef M i<pvI (M.getD i []))&&decide (0≤eM M i (pv (M.getD i []))) && !(anyB (bad M i) i)
def isF (M:Mx):Bool := !(anyB (fun i => !rowOk M i) M.length)
theorem isF_yes {M:Mx} (h : ∀ i,i<M.length→rowOk M i=true):isF M=true:=by
 unfold isF
 rw [anyB_no (fun i hi=>by rw [h i hi]; rfl)]; rfl
theorem isF_no {M:Mx} {i:Nat} (hi:i<M.length) (h:rowOk M i=false):isF M=false:=by
 unfold isF
 rw [anyB_iff.2 ⟨i,hi,by rw [h]; rfl⟩]; rfl
theorem bef_ge (M:Mx) (i:Nat) : -1≤bef M i:=by
 unfold bef pvI
 split
 ·omega
 ·split <;> omega
theorem rowOk_no1 {M:Mx} {i:Nat} (h:pvI (M.getD i [])≤bef M i):rowOk M i=false:=by
 unfold rowOk; rw [decide_eq_false (by omega)]; rfl
theorem rowOk_no2 {M:Mx} {i:Nat} (h:eM M i (pv (M.getD i []))<0):rowOk M i=false:=by
 unfold rowOk; rw [decide_eq_false (p:=0≤_) (by omega),Bool.and_false]; rfl
theorem rowOk_no3 {M:Mx} {i:Nat} (h:anyB (bad M i) i=true):rowOk M i=false:=by
 unfold rowOk; rw [h]; simp
theorem rowOk_yes {M:Mx} {i:Nat} (h1:bef M i<pvI (M.getD i [])) (h2:0≤eM M i (pv (M.getD i []))) (h3:anyB (bad M i) i=false):rowOk M i=true:=by
 unfold rowOk; rw [decide_eq_true h1,decide_eq_true h2,h3]; rfl
set_option maxHeartbeats 1000000 in
theorem isForm_any {w:World} {v:Value} {M:Mx} {n:Nat} (hM:MatR w v M) (hR:Rect n M) (hl:M.length≤1000000) (hn:n≤1000000) :
  Calls Tryz.prog 260 #[v] w fun e w'=>e = .returned (.bool (isF M))∧Ext w w':=by
 obtain ⟨sa,gb,go,cap,vs,rfl,hcap,hvl,hS,hr⟩:=hM
 have HS:=Lib.hid hS
 have HV:=Lib.hid hvl
 have HR:=Lib.hid hr
 have HRt:=Lib.hid hR
 clear hS hvl hr hR
 go_enter Tryz.func260,Tryz.ntmps260
 go_wp2_with fail
 go_loopw [3,9] (fun be idx wr => ∃ i:Nat,i≤M.length∧idx = .int .i64 i∧be = .int .i64 (bef M i)∧Hid (∀ j,j<i→rowOk M j=true)∧Ext w wr) (fun _ idx _=>M.length-(intOf idx).toNat)
 case atStart=>exact ⟨0,by omega,by go_num,by unfold bef; rw [if_pos rfl],Lib.hid (fun j h=>by omega),Ext.refl _⟩
 case round =>
  obtain ⟨i,hi,rfl,rfl,Hp,hE⟩:=hrel
  generalize wr=X at *
  by_cases hlt:i<M.length
  ·have hii:(i:Int)<(M.length:Int):=by omega
   have hic:(i:Int)≤(cap:Int):=by omega
   obtain rfl:=HS.out.addr (by rw [HV.out]; omega)
   obtain ⟨sr,br,or,cr,hrow,hrc,hSr⟩:=MatR.row HS.out HV.out HR.out hlt
   have hrl:M[i].length=n:=HRt.out _ (List.getElem_mem hlt)
   have hrd:M.getD i []=M[i]:=getD_get hlt []
   obtain ⟨r,hrr⟩ : ∃ r,r=M[i]:=⟨_,rfl⟩
   rw [← hrr] at hrow hrc hSr hrl hrd
   rw [hrl] at hrow hrc
   have hrow':=hE.cell hrow
   have Hrl:=Lib.hid hrl
   have Hrd:=Lib.hid hrd
   have hpc:=Lib.hid (fun W (hW:Ext w W)=>pivot_any (w:=W) (v := .slice sr n cr) (r:=r) ⟨sr,br,or,cr,by rw [Hrl.out],by rw [Hrl.out]; exact hrc,hSr.ext hW⟩ (by rw [Hrl.out]; exact hn))
   have hb1:=bef_ge M i
   have HSr:=Lib.hid hSr
   clear hrow hrr hrl hrd hSr
   have hEW:=(Ext.refl X).alloc (.cells #[.slice sr n cr] 30)
   have hfin : ∀ W,Ext w W→rowOk M i=false→(.returned (.bool false):Ending) = .returned (.bool (isF M))∧Ext w W:=fun W hW h=>⟨by rw [isF_no hlt h],hW⟩
   have Hfin:=Lib.hid hfin
   clear hfin
   obtain ⟨be,hbe⟩ : ∃ be,be=bef M i:=⟨_,rfl⟩
   rw [← hbe] at hb1 ⊢
   have Hbe:=Lib.hid hbe
   clear hbe
   by_cases h1:pvI r≤be
   ·have Hno:=Lib.hid (rowOk_no1 (M:=M) (i:=i) (by rw [Hrd.out, ← Hbe.out]; exact h1))
    obtain ⟨q,hq⟩ : ∃ q,q=pvI r:=⟨_,rfl⟩
    rw [← hq] at h1 hpc
    clear hq
    go_wp2_with fail
    refine (hpc.out _ (hE.trans hEW)).mono ?_
    rintro e W ⟨rfl,hW⟩
    have c5:=hW.cell (show (X.alloc (.cells #[.slice sr n cr] 30)).cell? ⟨X.heap.size,0,none⟩=some (.slice sr n cr) by go_simp)
    go_wp2_with fail
    go_ret
    exact Hfin.out _ (((hE.trans hEW).trans hW).alloc _) Hno.out
   ·have hpn:pv r<r.length∧pvI r=(pv r:Int):=by
     unfold pvI at h1 ⊢
     by_cases h:pv r<r.length
     ·exact ⟨h,by rw [if_pos h]⟩
     ·rw [if_neg h] at h1; omega
    rw [hpn.2] at hpc h1
    have hpn2:pv r<n:=by have:=hpn.1; rw [Hrl.out] at this; exact this
    have hH1:=Lib.hid (show bef M i<pvI (M.getD i []) by rw [Hrd.out,hpn.2, ← Hbe.out]; omega)
    have HpI:=Lib.hid hpn.2
    have ha:=(HSr.out.ext hE).cell (pv r) (.int .i64 (r.getD (pv r) 0)) (by rw [getD_get hpn.1]; exact is_get hpn.1)
    obtain rfl:=HSr.out.addr (by rw [is_length]; omega)
    obtain ⟨p,hp⟩ : ∃ p,p=pv r:=⟨_,rfl⟩
    obtain ⟨a,hae⟩ : ∃ a,a=r.getD p 0:=⟨_,rfl⟩
    have heM:eM M i (pv (M.getD i []))=a:=by rw [Hrd.out,hae,hp]; unfold eM; rw [Hrd.out]
    rw [← hp] at hpc h1 hpn2 ha HpI
    rw [← hae] at ha
    have Hp1:=Lib.hid hp
    have Hae:=Lib.hid hae
    have HeM:=Lib.hid heM
    have hpi:(p:Int)<(n:Int):=by omega
    have h1b:be<(p:Int):=by omega
    clear hp hae heM hpn h1
    by_cases h2:a<0
    ·have Hno:=Lib.hid (rowOk_no2 (M:=M) (i:=i) (by rw [HeM.out]; exact h2))
     go_wp2_with fail
     refine (hpc.out _ (hE.trans hEW)).mono ?_
     rintro e W ⟨rfl,hW⟩
     have c5:=hW.cell (show (X.alloc (.cells #[.slice (some ⟨br,or,none⟩) n cr] 30)).cell? ⟨X.heap.size,0,none⟩=some (.slice (some ⟨br,or,none⟩) n cr) by go_simp)
     have c6:=hW.cell (hEW.cell ha)
     have l6:=World.block_lt_of_cell? _ _ c6
     have l5:=World.block_lt_of_cell? _ _ c5
     go_wp2_with fail
     go_ret
     exact Hfin.out _ (((hE.trans hEW).trans hW).alloc _) Hno.out
    ·have h20:0≤a:=by omega
     clear h2
     go_wp2_with fail
     refine (hpc.out _ (hE.trans hEW)).mono ?_
     rintro e W ⟨rfl,hW⟩
     have c5:=hW.cell (show (X.alloc (.cells #[.slice (some ⟨br,or,none⟩) n cr] 30)).cell? ⟨X.heap.size,0,none⟩=some (.slice (some ⟨br,or,none⟩) n cr) by go_simp)
     have c6:=hW.cell (hEW.cell ha)
     have l6:=World.block_lt_of_cell? _ _ c6
     have l5:=World.block_lt_of_cell? _ _ c5
     have hXW:X.heap.size<W.heap.size:=by have:=hW.size; simp at this; omega
     have hE3:=((hE.trans hEW).trans hW).alloc (.cells #[.int .i64 (p:Int)] 3)
     have d5:=((Ext.refl W).alloc (.cells #[.int .i64 (p:Int)] 3)).cell c5
     have d6:=show (W.alloc (.cells #[.int .i64 (p:Int)] 3)).cell? ⟨W.heap.size,0,none⟩=some (.int .i64 (p:Int)) by go_simp
     have hcon:=contains_isForm (cap:=cap) (c1 := .pointer (some ⟨W.heap.size,0,none⟩)) (c2 := .pointer (some ⟨X.heap.size,0,none⟩)) (p:=bad M i) (vs:=vs.take i) ((HS.out.ext hE3).take i) (by rw [List.length_take,HV.out]; omega) (fun k hk W2 hW2=>by
      have hki:k<i:=by rw [List.length_take] at hk; omega
      have hkM:k<M.length:=by omega
      obtain ⟨sk,bk,ok,ck,hrk,hck,hSk⟩:=MatR.row HS.out HV.out HR.out hkM
      have e1:(vs.take i)[k] = .slice sk n ck:=by
       rw [List.getElem_take]
       have:=HS.out.cell k _ (List.getElem?_eq_getElem (by rw [HV.out]; exact hkM))
       rw [this] at hrk
       rw [Option.some.inj hrk,HRt.out _ (List.getElem_mem hkM)]
      rw [e1]
      have:=isFormC_any (w:=W2) (cap:=ck) (p:=p) (bp:=W.heap.size) (br:=X.heap.size) ((hSk.ext hE3).ext hW2) ((HSr.out.ext hE3).ext hW2) (HRt.out _ (List.getElem_mem hkM)) Hrl.out hn hpn2 (hW2.cell d6) (hW2.cell d5)
      have e2:bad M i k=(decide (M[k].getD p 0<0)||decide (r.getD p 0≤M[k].getD p 0)):=by
       unfold bad eM
       rw [Hrd.out, ← Hp1.out,getD_get hkM []]
      rw [e2]; exact this)
     rw [List.length_take,HV.out,Nat.min_eq_left (by omega)] at hcon
     have Hcon:=Lib.hid hcon
     clear hcon
     cases hany:anyB (bad M i) i
     ·rw [hany] at Hcon
      have Hok:=Lib.hid (rowOk_yes hH1.out (by rw [HeM.out]; exact h20) hany)
      clear hany
      go_wp2_with fail
      refine Hcon.out.mono ?_
      rintro e W2 ⟨rfl,hW2⟩
      have d7:=hW2.cell d6
      go_wp2_with fail
      go_roundw
      case rel=>exact ⟨i+1,by omega,by go_num,by unfold bef; rw [if_neg (by omega),Nat.add_sub_cancel,Hrd.out,HpI.out],Lib.hid (fun j hj=>by
       by_cases e:j=i
       ·subst e; exact Hok.out
       ·exact Hp.out j (by omega)),hE3.trans hW2⟩
      case measure=>simp [intOf] <;> omega
     ·rw [hany] at Hcon
      have Hno:=Lib.hid (rowOk_no3 hany)
      clear hany
      go_wp2_with fail
      refine Hcon.out.mono ?_
      rintro e W2 ⟨rfl,hW2⟩
      go_wp2_with fail
      go_ret
      exact Hfin.out _ (hE3.trans hW2) Hno.out
  ·have Hyes:=Lib.hid (isF_yes (M:=M) (fun j hj=>Hp.out j (by omega)))
   go_wp2_with fail
   go_ret
   exact ⟨by rw [Hyes.out]; rfl,hE⟩
theorem isH_isF {n:Nat} {ps:List Nat} {M:Mx} (h:IsH n ps M):isF M=true:=by
 have e:=isH_pv h
 subst e
 have hp : ∀ i,i<M.length→(M.map pv).getD i 0=pv (M.getD i []):=fun i hi=>getD_map pv M i hi 0 []
 have hlen : ∀ i,i<M.length→(M.getD i []).length=n:=fun i hi=>by rw [getD_get hi]; exact h.rect _ (List.getElem_mem hi)
 have hI : ∀ i,i<M.length→pvI (M.getD i [])=(pv (M.getD i []):Int):=fun i hi=>by
  have:=h.lt i hi
  rw [hp i hi] at this
  unfold pvI; rw [if_pos (by rw [hlen i hi]; exact this)]
 refine isF_yes fun i hi=>rowOk_yes ?_ ?_ (anyB_no fun k hk => ?_)
 ·unfold bef
  rw [hI i hi]
  split
  ·omega
  ·rw [hI (i-1) (by omega)]
   have:=h.inc (i-1) i (by omega) hi
   rw [hp i hi,hp (i-1) (by omega)] at this
   omega
 ·have:=h.pos i hi
  rw [hp i hi] at this; omega
 ·have:=h.red k i hk hi
  rw [hp i hi] at this
  unfold bad
  simp only [Bool.or_eq_false_iff,decide_eq_false_iff_not]
  omega
def isFE (M:Mx):Bool:=if checkM M=0 then isF M else false
theorem IsForm_any {w:World} {v:Value} {M:Mx} (hM:MatR w v M) :
  Calls Tryz.prog 205 #[v] w fun e w'=>e = .returned (.tuple #[.bool (isFE M),.int .i64 (checkM M)])∧Ext w w':=by
 have hck:=Lib.hid (tableCheck_any hM)
 obtain ⟨c,hc⟩ : ∃ c,c=checkM M:=⟨_,rfl⟩
 by_cases h0:c=0
 ·have hc0:checkM M=0:=by omega
  obtain ⟨h1,h2,h3,_⟩:=checkM_ok hc0
  have hif:=Lib.hid (fun W (hW:Ext w W)=>isForm_any (hM.ext hW) h3 (by omega) (by omega))
  have hE:isFE M=isF M:=by unfold isFE; rw [if_pos hc0]
  rw [hE,hc0]
  rw [hc0] at hck
  clear hM hc h0 h1 h2 h3 hE hc0 c
  go_enter Tryz.func205,Tryz.ntmps205
  go_wp2_with fail
  refine hck.out.mono ?_
  rintro e w1 ⟨rfl,hE1⟩
  go_wp2_with fail
  refine (hif.out _ hE1).mono ?_
  rintro e w2 ⟨rfl,hE2⟩
  go_wp2_with fail
  go_ret2
  exact ⟨rfl,hE1.trans hE2⟩
 ·have hE:isFE M=false:=by unfold isFE; rw [if_neg (by omega)]
  rw [hE]
  rw [← hc] at hck ⊢
  have hcb:(c==0)=false:=beq_eq_false_iff_ne.2 h0
  have hcb2:(c != 0)=true:=by simp [bne,hcb]
  clear hM hc hE
  go_enter Tryz.func205,Tryz.ntmps205
  go_wp2_with fail
  refine hck.out.mono ?_
  rintro e w1 ⟨rfl,hE1⟩
  go_wp2_with fail
  go_ret2
  exact ⟨rfl,hE1⟩
theorem lat_check_ok {w:World} {v:Value} {F:Mx} {n:Nat} (hM:MatR w v F) (hF : ∀ r∈F,chkRow r=0∧r.length=n) (hn:n≤12) (hl:F.length≤12) :
  Calls Tryz.prog 193 #[.int .i64 n,v] w fun e w'=>e = .returned (.int .i64 0)∧Ext w w':=by
 have hck:=Lib.hid (CheckAll_ok hM hF (by omega))
 obtain ⟨sa,gb,go,cap,vs,rfl,hcap,hvl,hS,hr⟩:=hM
 obtain ⟨L,hL⟩ : ∃ L,L=F.length:=⟨_,rfl⟩
 rw [← hL] at hck hl hcap ⊢
 have h1 : ¬ (n:Int)<0:=by omega
 have h2 : ¬ (n:Int)>12:=by omega
 have h3 : ¬ (L:Int)>12:=by omega
 clear hS hr hvl hF hL
 go_enter Tryz.func193,Tryz.ntmps193
 go_wp2_with fail
 refine hck.out.mono ?_
 rintro e w1 ⟨rfl,hE1⟩
 go_wp2_with fail
 go_ret
 exact ⟨rfl,hE1⟩
theorem chk_of_form {n:Nat} {ps:List Nat} {K:Mx} (hI:IsH n ps K) (hn:n≤12) (hl:K.length≤12) (hs : ∀ r∈K,∀ z∈r,-1000000000≤z∧z≤1000000000):checkM K=0 ∧ ∀ r∈K,chkRow r=0∧r.length=n:=by
 have hg : ∀ r∈K,r.any grt=false:=fun r hr=>by
  cases h:r.any grt
  ·rfl
  ·obtain ⟨z,hz,hg⟩:=List.any_eq_true.1 h
   have:=hs r hr z hz
   unfold grt at hg
   have:=of_decide_eq_true hg
   omega
 refine ⟨?_,fun r hr=>⟨?_,hI.rect r hr⟩⟩
 ·unfold checkM
  rw [if_neg (by omega)]
  refine chk_all _ _ fun j hj => ?_
  have hj':=hI.rect _ (List.getElem_mem hj)
  have h0:(K.getD 0 []).length=n:=by rw [getD_get (by omega)]; exact hI.rect _ (List.getElem_mem _)
  unfold chkR
  rw [if_neg (by omega),if_neg (by omega),hg _ (List.getElem_mem hj)]; rfl
 ·unfold chkRow
  have:=hI.rect r hr
  rw [if_neg (by omega),hg r hr]; rfl
theorem isFE_of {n:Nat} {ps:List Nat} {K:Mx} (hI:IsH n ps K) (hc:checkM K=0):isFE K=true:=by
 unfold isFE
 rw [if_pos hc]; exact isH_isF hI
theorem latCheck_ok {w:World} {v:Value} {K:Mx} {n:Nat} {ps:List Nat} (hM:MatR w v K) (hI:IsH n ps K) (hn:n≤12) (hl:K.length≤12) (hs : ∀ r∈K,∀ z∈r,-1000000000≤z∧z≤1000000000) :
  Calls Tryz.prog 139 #[latv n v] w fun e w'=>e = .returned (.int .i64 0)∧Ext w w':=by
 obtain ⟨hc,hrow⟩:=chk_of_form hI hn hl hs
 have hck:=Lib.hid (fun W (hW:Ext w W)=>lat_check_ok (hM.ext hW) hrow hn hl)
 have hif:=fun W (hW:Ext w W)=>IsForm_any (hM.ext hW)
 rw [isFE_of hI hc,hc] at hif
 have Hif:=Lib.hid hif
 have hX:Ext w (w.alloc (.cells #[.int .i64 n,v] 204)):=(Ext.refl w).alloc _
 have x1:(w.alloc (.cells #[.int .i64 n,v] 204)).cell? ⟨w.heap.size,1,none⟩=some v:=by go_simp
 obtain ⟨sa,gb,go,cap,vs,rfl,_⟩:=hM
 clear hrow hc hif hs hI
 go_enter Tryz.func139,Tryz.ntmps139
 go_wp2_with fail
 refine (hck.out _ hX).mono ?_
 rintro e w1 ⟨rfl,hE1⟩
 have x2:=hE1.cell x1
 have hX1:=hX.trans hE1
 clear x1 hX hE1
 go_wp2_with fail
 refine (Hif.out _ hX1).mono ?_
 rintro e w2 ⟨rfl,hE2⟩
 have hX2:=hX1.trans hE2
 go_wp2_with fail
 go_ret
 exact ⟨rfl,hX2⟩
section
variable {P:Program} {ops:Array Oper} {md:Region.Mode} {Q:Exit→Act→World→Prop} {S:World→Prop}
theorem wpAnyLH_oneI {n i f:Nat} {o:Oper} {L:Array Bool→Act→World→Prop} {listed:Array Bool} {a:Act} {w:World} (ho:ops[i]? = some o) (hr:(Region.ready md ops listed==[i]&&decide (i<n))=true) (inv:HeadInv md ops n listed)
  (h:HeadInv md ops n (listed.setIfInBounds i true) → ∀ K':Act→World→Prop,(∀ a w,S w→wpAnyLH P md ops Q S n L f (listed.setIfInBounds i true) a w→K' a w)→if Region.wanted o (yielded ops a.tmps)=true then Oper.wp P o a w K' Q else K' (a.put o.dst undef) w):wpAnyLH P md ops Q S n L (f+1) listed a w:=by
 have h2:=hr
 simp only [Bool.and_eq_true,decide_eq_true_eq,beq_iff_eq] at h2
 exact wpAnyLH_one ho hr (h (inv.set (by rw [h2.1]; simp) h2.2))
end
section
variable {P:Program} {ops:Array Oper} {md:Region.Mode} {Q:Exit→Act→World→Prop} {S:World→Prop}
end
end Go.Proofs.YtjnpakablgommaaGreatDoor
