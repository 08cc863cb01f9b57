/- Part 24 of the proof of the claim: contracts of the functions that it reaches, and plain laws; no condition. -/
import Derived.Test.YtjnpakablgommaaGreatDoorV21
import Derived.Test.YtjnpakablgommaaGreatDoorV22
import Derived.Test.YtjnpakablgommaaGreatDoorV23
set_option maxRecDepth 100000
namespace Go.Proofs.YtjnpakablgommaaGreatDoor
open Go.RowKit Go.Sort
theorem LgsR.row {w:World} {sa:Option Addr} {gb go:Nat} {vs:List Value} {M:Mx} (hS:Sl w sa gb go vs) (hl:vs.length=M.length) (hr : ∀ i (h:i<M.length) (h':i<vs.length),IntsR w vs[i] M[i]) {i:Nat} (hi:i<M.length) :
  ∃ sr br or cr,w.cell? ⟨gb,go+i,none⟩=some (.slice sr M[i].length cr)∧M[i].length≤cr∧Sl w sr br or (ss M[i]):=by
 obtain ⟨sr,br,or,cr,e,h1,h2⟩:=hr i hi (by omega)
 exact ⟨sr,br,or,cr,by rw [← e]; exact hS.cell i _ (List.getElem?_eq_getElem (by omega)),h1,h2⟩
theorem lform_nil {w:World} {n:Nat}:Calls Tryz.prog 195 #[.slice none 0 0,.int .i64 n] w fun e w'=>e = .returned (.slice none 0 0)∧Ext w w':=by
 go_enter Tryz.func195,Tryz.ntmps195
 go_wp2_with fail
 go_loopw [5,6] (fun dn idx wr=>dn = .int .i64 0∧idx = .int .i64 0∧Ext w wr) (fun _ _ _=>0)
 case atStart=>exact ⟨by go_num,by go_num,Ext.refl _⟩
 case round =>
  obtain ⟨rfl,rfl,hE⟩:=hrel
  by_cases hn:(0:Int)<(n:Int)
  ·go_wp2_with fail
   go_ret
   exact ⟨rfl,hE⟩
  ·go_wp2_with fail
   go_ret
   exact ⟨rfl,hE⟩
theorem lform_none {w:World} {n g cap:Nat}:Calls Tryz.prog 195 #[slv g 0 cap,.int .i64 n] w fun e w'=>e = .returned (slv g 0 cap)∧Ext w w':=by
 go_enter Tryz.func195,Tryz.ntmps195
 go_wp2_with fail
 go_loopw [5,6] (fun dn idx wr=>dn = .int .i64 0∧idx = .int .i64 0∧Ext w wr) (fun _ _ _=>0)
 case atStart=>exact ⟨by go_num,by go_num,Ext.refl _⟩
 case round =>
  obtain ⟨rfl,rfl,hE⟩:=hrel
  have hc:(0:Int)≤(cap:Int):=by omega
  by_cases hn:(0:Int)<(n:Int)
  ·go_wp2_with fail
   go_ret
   exact ⟨rfl,hE⟩
  ·go_wp2_with fail
   go_ret
   exact ⟨rfl,hE⟩
def LdO (B:Nat) (w0 w:World) (v:Value) (F:Mx):Prop := ∃ vs,vs.length=F.length∧w.ownsRow B 306 1 v F.length vs ∧ ∀ t (_:t<F.length) (h':t<vs.length),IntsR w0 vs[t] F[t]
theorem LdO.nil (B:Nat) (w0 w:World):LdO B w0 w (.slice none 0 0) []:=⟨[],rfl,⟨rfl,.inl ⟨rfl,rfl⟩⟩,fun t h=>by simp at h⟩
theorem LdO.ext {B:Nat} {w0 w w':World} {v:Value} {F:Mx} (h:LdO B w0 w v F) (he:Ext w w'):LdO B w0 w' v F:=by
 obtain ⟨vs,h1,h2,h3⟩:=h
 exact ⟨vs,h1,ownsRow_ext h2 he,h3⟩
theorem LdO.grid {B:Nat} {w0 w:World} {v:Value} {F:Mx} (h:LdO B w0 w v F) (he:Ext w0 w):LgsR w v F:=by
 obtain ⟨vs,h1,h2,h3⟩:=h
 rcases h2.2 with ⟨rfl,h0⟩ | ⟨g,cap,cur,rfl,hb,hg,hn,hm,hs,ht⟩
 ·have hF:F=[]:=List.eq_nil_of_length_eq_zero h0
  subst hF
  exact ⟨none,0,0,0,[],rfl,Nat.le_refl _,rfl,Sl.nil _ _ _ _,fun i h=>by simp at h⟩
 ·have hO:OwnV 306 B w g cap vs:=by unfold OwnV; rw [h1]; exact h2
  exact ⟨_,g,0,cap,vs,rfl,hn,h1,hO.sl,fun i a b=>(h3 i a b).ext he⟩
section
variable {w:World} {ops:Array Oper} {rest:List Oper} {o:Oper} {a:Act} {Q:Exit→Act→World→Prop}
theorem app_ld (hgd:o.guard=none) (s x:Operand) (ho:o.op = .call { callee := .builtin .append,args := #[s,x],argTypes := #[263,263] })
  {B:Nat} {w0:World} {v rv:Value} {F:Mx} {r:List Int} (hs:a.eval s=v) (hown:LdO B w0 w v F) {b:Nat} (hx:a.eval x = .slice (some ⟨b,0,none⟩) 1 1) (hc:w.cell? ⟨b,0,none⟩=some rv) (hr:IntsR w0 rv r) (hl:F.length≤1000000000) (hB:B≤w.heap.size)
  (h : ∀ g cap w',LdO B w0 w' (slv g (F.length+1) cap) (F++[r])→Below B w w'→w.grownBy w' v.ownBlock→wpList Tryz.prog ops Q rest (a.put o.dst (slv g (F.length+1) cap)) w'):wpList Tryz.prog ops Q (o::rest) a w:=by
 obtain ⟨i0,hi,hz0,hz1,hz2⟩:=info_parts Tryz.infoLong
 obtain ⟨vs,h1,h2,h3⟩:=hown
 refine wpList_append_lies w hgd s x 263 ho B 306 i0 _ 1 24 Tryz.underlying263 hi hz0 hz1 hz2 rfl (by omega) v F.length vs hs h2 ⟨b,0,none⟩ 1 1 [rv] hx rfl ?_ ?_ (by omega) (by unfold maxLen; omega) (by omega) hB w.heap.size rfl ?_
 ·intro j u hj
  have:j=0:=by have:=(List.getElem?_eq_some_iff.1 hj).1; simp at this; omega
  subst this
  simp only [List.getElem?_cons_zero,Option.some.injEq] at hj
  subst hj
  simpa [Addr.add_lit] using hc
 ·intro u hu
  simp only [List.mem_cons,List.not_mem_nil,or_false] at hu
  subst hu
  obtain ⟨sa,gb,go,cap,rfl,_⟩:=hr
  rfl
 ·intro g cap w' k1 k2 k3 k4
  refine h g cap w' ⟨vs++[rv],by simp [h1],?_,fun t ht ht' => ?_⟩ (Below.grown (Below.refl _ _) k2 hB (fun q hq=>(World.ownsRow.lt h2 q hq).1)) k2
  ·rw [List.length_append]; exact k1
  ·rcases Nat.lt_or_ge t F.length with hlt | hge
   ·simp only [List.getElem_append_left hlt,List.getElem_append_left (show t<vs.length by omega)]
    exact h3 t hlt (by omega)
   ·have hte:t=F.length:=by simp at ht; omega
    subst hte
    simp only [List.getElem_append_right (Nat.le_refl F.length),List.getElem_append_right (show vs.length≤F.length by omega),h1,Nat.sub_self,List.getElem_cons_zero]
    exact hr
end
set_option maxHeartbeats 1000000 in
theorem behind_any {w:World} {v:Value} {H:Mx} {c m:Nat} {ps:List Nat} (hH:LgsR w v H) (hR:Rect (c+m) H) (hp : ∀ r∈H,pvI r=(pv r:Nat)) (hK:IsH m ps (krn c H)) (hb : ∀ i j,nd (eM (krn c H) i j)<LIM) (hm:0<m) (hl:H.length≤1000000) (hn:c+m≤1000000) (hL:Laid w) :
  Calls Tryz.prog 250 #[v,.int .i64 c,.int .i64 m] w fun e w' => ∃ v',e = .returned v'∧LgsR w' v' (krn c H)∧Ext w w':=by
 obtain ⟨sa,gb,go,cap,vs,rfl,hcap,hvl,hS,hr⟩:=hH
 have HS:=Lib.hid hS
 have HV:=Lib.hid hvl
 have HR:=Lib.hid hr
 have HRt:=Lib.hid hR
 have Hpp:=Lib.hid hp
 have HK:=Lib.hid hK
 have HB:=Lib.hid hb
 have HL:=Lib.hid hL
 clear hS hvl hr hR hp hK hb hL
 go_enter Tryz.func250,Tryz.ntmps250
 go_wp2_with fail
 go_loopw [7,12] (fun out idx wr => ∃ i:Nat,i≤H.length∧idx = .int .i64 i∧Hid (LdO w.heap.size w wr out (krn c (H.take i)))∧Ext w wr) (fun _ idx _=>H.length-(intOf idx).toNat)
 case atStart=>exact ⟨0,by omega,by go_num,Lib.hid (LdO.nil _ _ _),Ext.refl _⟩
 case round =>
  obtain ⟨i,hi',rfl,hV,hE⟩:=hrel
  generalize wr=X at *
  by_cases hlt:i<H.length
  ·have hii:(i:Int)<(H.length:Int):=by omega
   obtain rfl:=HS.out.addr (by rw [HV.out]; omega)
   obtain ⟨sr,br,or,cr,hrow,hrc,hSr⟩:=LgsR.row HS.out HV.out HR.out hlt
   have hrl:H[i].length=c+m:=HRt.out _ (List.getElem_mem hlt)
   have hstep:=krn_step (c:=c) hlt
   obtain ⟨r,hr⟩ : ∃ r,r=H[i]:=⟨_,rfl⟩
   rw [← hr] at hrow hrc hSr hrl hstep
   rw [hrl] at hrow hrc
   have hrow':=hE.cell hrow
   obtain rfl:=hSr.addr (by simp; omega)
   have HSr:=Lib.hid hSr
   have hld:=Lib.hid (llead_any (w:=X) (cap:=cr) (hSr.ext hE) (by omega))
   rw [hrl,show pvI r=(pv r:Nat) by rw [hr]; exact Hpp.out _ (List.getElem_mem hlt)] at hld
   have hcr:(c:Int)≤((c+m:Nat):Int):=by omega
   have hcr2:(c:Int)≤(cr:Int):=by omega
   have Hrl:=Lib.hid hrl
   have Hkl:=Lib.hid (krn_len c i H)
   have hcast:((c+m:Nat):Int)=(c:Int)+(m:Int):=by omega
   have Hrc:=Lib.hid hrc
   have hcrne : ¬ cr=c:=by omega
   have hcr3 : ¬ (cr-c=0):=by omega
   clear hr hrow hrc hSr hrl
   obtain ⟨p,hp⟩ : ∃ p,p=pv r:=⟨_,rfl⟩
   rw [← hp] at hstep hld
   by_cases hpc:p<c
   ·have hpi : ¬ (c:Int)≤(p:Int):=by omega
    rw [if_pos hpc] at hstep
    have Hstep:=Lib.hid hstep
    clear hstep hp hpc
    go_wp2_with fail
    refine hld.out.mono ?_
    rintro e W ⟨rfl,hW⟩
    go_wp2_with fail
    go_roundw
    case rel=>exact ⟨i+1,by omega,by go_num,Lib.hid (by rw [Hstep.out]; exact hV.out.ext hW),hE.trans hW⟩
    case measure=>simp [intOf] <;> omega
   ·have hpi:(c:Int)≤(p:Int):=by omega
    rw [if_neg hpc] at hstep
    have Hstep:=Lib.hid hstep
    have Hrd:=Lib.hid (show IntsR w (.slice (some ⟨br,or+c,none⟩) m (cr-c)) (r.drop c) by
     have hdl:(r.drop c).length=m:=by rw [List.length_drop,Hrl.out]; omega
     refine ⟨_,br,or+c,cr-c,by rw [hdl],by rw [hdl]; have:=Hrc.out; omega,?_⟩
     rw [← ss_drop]; exact HSr.out.drop rfl)
    clear hstep hp hpc
    have hXw:=hE.size
    go_wp2_with fail
    refine hld.out.mono ?_
    rintro e W ⟨rfl,hW⟩
    have hWX:=hW.size
    go_wp2_with (at_builtin; refine app_ld rfl _ _ rfl (B:=w.heap.size) (w0:=w) rfl ((hV.out.ext hW).ext ((Ext.refl _).alloc _)) rfl (b:=W.heap.size) (rv := .slice (some ⟨br,or+c,none⟩) m (cr-c)) (r:=r.drop c) (by go_simp <;> omega) Hrd.out (by have:=Hkl.out; omega) (by simp; omega) ?_; intro gg cap2 w8 hO8 hB8 hG8; rw [← Hstep.out] at hO8)
    have hE8:Ext w w8:=Below.trans ((hE.trans hW).alloc _) hB8
    have HO8:=Lib.hid hO8
    clear hG8 hB8 hO8
    go_wp2_with fail
    go_roundw
    case rel=>exact ⟨i+1,by omega,by go_num,Lib.hid (by
     have h1:=HO8.out
     rw [Hstep.out] at h1 ⊢
     simpa using h1),hE8⟩
    case measure=>simp [intOf] <;> omega
  ·have hie:i=H.length:=by omega
   subst hie
   have h1:=hV.out
   rw [List.take_length] at h1
   rcases Nat.eq_zero_or_pos (krn c H).length with hz | hz
   ·have hnil:krn c H=[]:=List.eq_nil_of_length_eq_zero hz
    have hv : ∃ v0,v0=Value.slice none 0 0:=⟨_,rfl⟩
    obtain ⟨vs0,e1,e2,e3⟩:=h1
    rw [hnil] at e2
    rcases e2.2 with ⟨rfl,_⟩ | ⟨g,cap,cur,rfl,hb1,hg1,hn1,hm1,hs1,ht1⟩
    ·have HN:=Lib.hid hnil
     clear hv e1 e2 e3 hz hnil
     go_wp2_with fail
     refine (lform_nil).mono ?_
     rintro e W ⟨rfl,hW⟩
     have hEE:=hE.trans hW
     go_wp2_with fail
     go_ret
     exact ⟨_,rfl,by rw [HN.out]; exact ⟨none,0,0,0,[],rfl,Nat.le_refl _,rfl,Sl.nil _ _ _ _,fun i h=>by simp at h⟩,hEE⟩
    ·have HN:=Lib.hid hnil
     clear hv e1 e2 e3 hz hnil
     go_wp2_with fail
     refine (lform_none).mono ?_
     rintro e W ⟨rfl,hW⟩
     have hEE:=hE.trans hW
     go_wp2_with fail
     go_ret
     exact ⟨_,rfl,by rw [HN.out]; exact ⟨_,g,0,cap,[],rfl,Nat.zero_le _,rfl,⟨fun h=>by simp at h,fun i x h=>by simp at h⟩,fun i h=>by simp at h⟩,hEE⟩
   ·obtain ⟨vs0,e1,e2,e3⟩:=h1
    rcases e2.2 with ⟨_,h0⟩ | ⟨g,cap,cur,rfl,hb1,hg1,hn1,hm1,hs1,ht1⟩
    ·omega
    ·have hO:OwnV 306 w.heap.size X g cap vs0:=by unfold OwnV; rw [e1]; exact e2
     have E3:=Lib.hid e3
     have E1:=Lib.hid e1
     have hkl:=krn_len c H.length H
     rw [List.take_length] at hkl
     obtain ⟨L,hLd⟩ : ∃ L,L=(krn c H).length:=⟨_,rfl⟩
     have hfm:=Lib.hid (lform_hnf (w0:=w) (w:=X) (L:=L) HK.out hLd (by omega) (by omega) (by omega) (by rw [hLd]; exact hn1) hO (by rw [hLd]; exact e1) (fun i a b=>E3.out i a b) HB.out HL.out hE)
     have HLd:=Lib.hid hLd
     have hcap:L≤cap:=by rw [hLd]; exact hn1
     rw [← hLd]
     clear hO e1 e2 e3 hz hb1 hg1 hn1 hm1 hs1 ht1 hkl hLd
     go_wp2_with fail
     refine hfm.out.mono ?_
     rintro e W ⟨rfl,hO2,hE2⟩
     have HO2:=Lib.hid hO2
     clear hO2 hfm
     go_wp2_with fail
     go_ret
     exact ⟨_,rfl,⟨_,g,0,cap,vs0,by rw [← HLd.out]; rfl,by rw [← HLd.out]; exact hcap,E1.out,HO2.out.sl,fun i a b=>(E3.out i a b).ext hE2⟩,hE2⟩
end Go.Proofs.YtjnpakablgommaaGreatDoor
namespace Go.Proofs.YtjnpakablgommaaGreatDoor
open Hnf (V Span Ech Red)
def sc (d:Int) (v:V):V:=fun j=>d*v j
theorem sc_span {M:List V} {v:V} (d:Int) (h:Span M v):Span M (sc d v):=span_of_eq (Span.zero.sub (-d) h) fun j=>by simp [sc,Hnf.sub,Int.neg_mul]
def CB (B:Nat):Nat→Nat
 | 0=>1
 | k+1=>(k+1)*(B*CB B k)
theorem det2_B {x y:V} {B:Nat} (hx : ∀ j,(x j).natAbs≤B) (hy : ∀ j,(y j).natAbs≤B) (p q:Nat):(det2 x y p q).natAbs≤2*(B*B):=by
 have h1:=mul_abs (hx p) (hy q)
 have h2:=mul_abs (hx q) (hy p)
 unfold det2; omega
theorem det3_B {x y z:V} {B:Nat} (hx : ∀ j,(x j).natAbs≤B) (hy : ∀ j,(y j).natAbs≤B) (hz : ∀ j,(z j).natAbs≤B) (p q s:Nat):(det3 x y z p q s).natAbs≤6*(B*(B*B)):=by
 have h1:=mul_abs (hx p) (det2_B hy hz q s)
 have h2:=mul_abs (hx q) (det2_B hy hz p s)
 have h3:=mul_abs (hx s) (det2_B hy hz p q)
 rw [Nat.mul_left_comm] at h1 h2 h3
 unfold det3; omega
theorem det4_B {x y z t:V} {B:Nat} (hx : ∀ j,(x j).natAbs≤B) (hy : ∀ j,(y j).natAbs≤B) (hz : ∀ j,(z j).natAbs≤B) (ht : ∀ j,(t j).natAbs≤B) (p q s u:Nat):(det4 x y z t p q s u).natAbs≤24*(B*(B*(B*B))):=by
 have h1:=mul_abs (hx p) (det3_B hy hz ht q s u)
 have h2:=mul_abs (hx q) (det3_B hy hz ht p s u)
 have h3:=mul_abs (hx s) (det3_B hy hz ht p q u)
 have h4:=mul_abs (hx u) (det3_B hy hz ht p q s)
 rw [Nat.mul_left_comm] at h1 h2 h3 h4
 unfold det4; omega
theorem CB1 (B:Nat):CB B 1=B:=by simp [CB]
theorem CB2 (B:Nat):CB B 2=2*(B*B):=by simp only [CB]; grind
theorem CB3 (B:Nat):CB B 3=6*(B*(B*B)):=by simp only [CB]; grind
theorem CB4 (B:Nat):CB B 4=24*(B*(B*(B*B))):=by simp only [CB]; grind
theorem one_in {L:List V} {x:V} (hx:x∈L):1≤L.length:=by
 match L with
 | []=>simp at hx
 | _::_=>simp
theorem two_in {L:List V} {x y:V} (hx:x∈L) (hy:y∈L) (h:x≠y):2≤L.length:=by
 match L with
 | []=>simp at hx
 | [a]=>simp at hx hy; exact absurd (hx.trans hy.symm) h
 | _::_::_=>simp
theorem three_in {L:List V} {x y z:V} (hx:x∈L) (hy:y∈L) (hz:z∈L) (h:x≠y) (h2:x≠z) (h3:y≠z):3≤L.length:=by
 match L with
 | []=>simp at hx
 | [a]=>simp at hx hy; exact absurd (hx.trans hy.symm) h
 | [a,b]=>simp only [List.mem_cons,List.not_mem_nil,or_false] at hx hy hz; grind
 | _::_::_::_=>simp
theorem four_in {L:List V} {x y z t:V} (hx:x∈L) (hy:y∈L) (hz:z∈L) (ht:t∈L) (h:x≠y) (h2:x≠z) (h3:y≠z) (h4:x≠t) (h5:y≠t) (h6:z≠t):4≤L.length:=by
 match L with
 | []=>simp at hx
 | [a]=>simp at hx hy; exact absurd (hx.trans hy.symm) h
 | [a,b]=>simp only [List.mem_cons,List.not_mem_nil,or_false] at hx hy hz ht; grind
 | [a,b,c]=>simp only [List.mem_cons,List.not_mem_nil,or_false] at hx hy hz ht; grind
 | _::_::_::_::_=>simp
theorem dB1 {M:List V} {p B:Nat} {f:V} (hM : ∀ r∈M,∀ j,(r j).natAbs≤B) (hf:Span M f) (h:f p≠0):1≤M.length ∧ ∃ d w,Duals M [p] 1 (CB B 1) d w:=by
 obtain ⟨x,hx,hne⟩:=lin_row (f:=fun v=>v p) rfl (fun v q u=>rfl) hf h
 refine ⟨one_in hx,x p,fun _=>x,hne,fun k _ => .mem hx,fun k hk s hs => ?_,fun k _ j=>by rw [CB1]; have:=hM x hx j; omega⟩
 obtain rfl:k=0:=by omega
 obtain rfl:s=0:=by omega
 rw [if_pos rfl]; rfl
theorem dB2 {M:List V} {p q B:Nat} {f g:V} (hM : ∀ r∈M,∀ j,(r j).natAbs≤B) (hf:Span M f) (hg:Span M g) (h:det2 f g p q≠0):2≤M.length ∧ ∃ d w,Duals M [p,q] 2 (CB B 2) d w:=by
 obtain ⟨x,hx,h⟩:=lin_row (f:=fun v=>det2 v g p q) (by simp [det2]) (fun v k u=>by simp only [det2,Hnf.sub]; grind) hf h
 obtain ⟨y,hy,h⟩:=lin_row (f:=fun v=>det2 x v p q) (by simp [det2]) (fun v k u=>by simp only [det2,Hnf.sub]; grind) hg h
 have bx:=hM x hx
 have bY:=hM y hy
 have hne:x≠y:=fun e=>h (by subst e; simp only [det2]; grind)
 refine ⟨two_in hx hy hne,det2 x y p q,fun k=>if k=0 then fun j=>det2 x y j q else fun j=>det2 x y p j,h,fun k hk => ?_,fun k hk s hs => ?_,fun k hk j => ?_⟩
 ·rcases lt2 hk with rfl | rfl
  ·exact span_of_eq ((Span.zero.step (-(y q)) hx).step (x q) hy) fun j=>by simp [det2,Hnf.sub]; grind
  ·exact span_of_eq ((Span.zero.step (y p) hx).step (-(x p)) hy) fun j=>by simp [det2,Hnf.sub]; grind
 ·rcases lt2 hk with rfl | rfl <;> rcases lt2 hs with rfl | rfl <;> simp [det2] <;> grind
 ·rw [CB2]
  rcases lt2 hk with rfl | rfl
  ·have:=det2_B bx bY j q; simp; omega
  ·have:=det2_B bx bY p j; simp; omega
theorem dB3 {M:List V} {p q s B:Nat} {f g e:V} (hM : ∀ r∈M,∀ j,(r j).natAbs≤B) (hf:Span M f) (hg:Span M g) (he:Span M e) (h:det3 f g e p q s≠0):3≤M.length ∧ ∃ d w,Duals M [p,q,s] 3 (CB B 3) d w:=by
 obtain ⟨x,hx,h⟩:=lin_row (f:=fun v=>det3 v g e p q s) (by simp [det3]) (fun v k u=>by simp only [det3,Hnf.sub]; grind) hf h
 obtain ⟨y,hy,h⟩:=lin_row (f:=fun v=>det3 x v e p q s) (by simp [det3,det2]) (fun v k u=>by simp only [det3,det2,Hnf.sub]; grind) hg h
 obtain ⟨z,hz,h⟩:=lin_row (f:=fun v=>det3 x y v p q s) (by simp [det3,det2]) (fun v k u=>by simp only [det3,det2,Hnf.sub]; grind) he h
 have bx:=hM x hx
 have bY:=hM y hy
 have bz:=hM z hz
 have n1:x≠y:=fun e=>h (by subst e; simp only [det3,det2]; grind)
 have n2:x≠z:=fun e=>h (by subst e; simp only [det3,det2]; grind)
 have n3:y≠z:=fun e=>h (by subst e; simp only [det3,det2]; grind)
 refine ⟨three_in hx hy hz n1 n2 n3,det3 x y z p q s,fun k=>if k=0 then fun j=>det3 x y z j q s else if k=1 then fun j=>det3 x y z p j s else fun j=>det3 x y z p q j,h,fun k hk => ?_,fun k hk t ht => ?_,fun k hk j => ?_⟩
 ·rcases lt3 hk with rfl | rfl | rfl
  ·exact span_of_eq (((Span.zero.step (-(det2 y z q s)) hx).step (det2 x z q s) hy).step (-(det2 x y q s)) hz) fun j=>by simp [det3,det2,Hnf.sub]; grind
  ·exact span_of_eq (((Span.zero.step (det2 y z p s) hx).step (-(det2 x z p s)) hy).step (det2 x y p s) hz) fun j=>by simp [det3,det2,Hnf.sub]; grind
  ·exact span_of_eq (((Span.zero.step (-(det2 y z p q)) hx).step (det2 x z p q) hy).step (-(det2 x y p q)) hz) fun j=>by simp [det3,det2,Hnf.sub]; grind
 ·rcases lt3 hk with rfl | rfl | rfl <;> rcases lt3 ht with rfl | rfl | rfl <;> simp [det3,det2] <;> grind
 ·rw [CB3]
  rcases lt3 hk with rfl | rfl | rfl
  ·have:=det3_B bx bY bz j q s; simp; omega
  ·have:=det3_B bx bY bz p j s; simp; omega
  ·have:=det3_B bx bY bz p q j; simp; omega
theorem dB4 {M:List V} {p q s t B:Nat} {f g e c:V} (hM : ∀ r∈M,∀ j,(r j).natAbs≤B) (hf:Span M f) (hg:Span M g) (he:Span M e) (hc:Span M c) (h:det4 f g e c p q s t≠0):4≤M.length ∧ ∃ d w,Duals M [p,q,s,t] 4 (CB B 4) d w:=by
 obtain ⟨x,hx,h⟩:=lin_row (f:=fun v=>det4 v g e c p q s t) (by simp [det4]) (fun v k u=>by simp only [det4,Hnf.sub]; grind) hf h
 obtain ⟨y,hy,h⟩:=lin_row (f:=fun v=>det4 x v e c p q s t) (by simp [det4,det3]) (fun v k u=>by simp only [det4,det3,Hnf.sub]; grind) hg h
 obtain ⟨z,hz,h⟩:=lin_row (f:=fun v=>det4 x y v c p q s t) (by simp [det4,det3,det2]) (fun v k u=>by simp only [det4,det3,det2,Hnf.sub]; grind) he h
 obtain ⟨o,ho,h⟩:=lin_row (f:=fun v=>det4 x y z v p q s t) (by simp [det4,det3,det2]) (fun v k u=>by simp only [det4,det3,det2,Hnf.sub]; grind) hc h
 have bx:=hM x hx
 have bY:=hM y hy
 have bz:=hM z hz
 have bo:=hM o ho
 have n1:x≠y:=fun e=>h (by subst e; simp only [det4,det3,det2]; grind)
 have n2:x≠z:=fun e=>h (by subst e; simp only [det4,det3,det2]; grind)
 have n3:y≠z:=fun e=>h (by subst e; simp only [det4,det3,det2]; grind)
 have n4:x≠o:=fun e=>h (by subst e; simp only [det4,det3,det2]; grind)
 have n5:y≠o:=fun e=>h (by subst e; simp only [det4,det3,det2]; grind)
 have n6:z≠o:=fun e=>h (by subst e; simp only [det4,det3,det2]; grind)
 refine ⟨four_in hx hy hz ho n1 n2 n3 n4 n5 n6,det4 x y z o p q s t,fun k=>if k=0 then fun j=>det4 x y z o j q s t else if k=1 then fun j=>det4 x y z o p j s t else if k=2 then fun j=>det4 x y z o p q j t else fun j=>det4 x y z o p q s j,h,fun k hk => ?_,fun k hk i hi => ?_,fun k hk j => ?_⟩
 ·rcases lt4 hk with rfl | rfl | rfl | rfl
  ·exact span_of_eq ((((Span.zero.step (-(det3 y z o q s t)) hx).step (det3 x z o q s t) hy).step (-(det3 x y o q s t)) hz).step (det3 x y z q s t) ho) fun j=>by simp [det4,det3,det2,Hnf.sub]; grind
  ·exact span_of_eq ((((Span.zero.step (det3 y z o p s t) hx).step (-(det3 x z o p s t)) hy).step (det3 x y o p s t) hz).step (-(det3 x y z p s t)) ho) fun j=>by simp [det4,det3,det2,Hnf.sub]; grind
  ·exact span_of_eq ((((Span.zero.step (-(det3 y z o p q t)) hx).step (det3 x z o p q t) hy).step (-(det3 x y o p q t)) hz).step (det3 x y z p q t) ho) fun j=>by simp [det4,det3,det2,Hnf.sub]; grind
  ·exact span_of_eq ((((Span.zero.step (det3 y z o p q s) hx).step (-(det3 x z o p q s)) hy).step (det3 x y o p q s) hz).step (-(det3 x y z p q s)) ho) fun j=>by simp [det4,det3,det2,Hnf.sub]; grind
 ·rcases lt4 hk with rfl | rfl | rfl | rfl <;> rcases lt4 hi with rfl | rfl | rfl | rfl <;> simp [det4,det3,det2] <;> grind
 ·rw [CB4]
  rcases lt4 hk with rfl | rfl | rfl | rfl
  ·have:=det4_B bx bY bz bo j q s t; simp; omega
  ·have:=det4_B bx bY bz bo p j s t; simp; omega
  ·have:=det4_B bx bY bz bo p q j t; simp; omega
  ·have:=det4_B bx bY bz bo p q s j; simp; omega
theorem sc_ne {D a:Int} (hD:D≠0) (h:0<a):D*a≠0:=Int.mul_ne_zero hD (by omega)
theorem duals_of {n B:Nat} {ps:List Nat} {F:Mx} (hn:n≤4) (hF:IsH n ps F) {L:List V} (hL : ∀ r∈L,∀ j,(r j).natAbs≤B) {D:Int} (hD:D≠0) (hS : ∀ v∈latM F,Span L (sc D v)):F.length≤4∧F.length≤L.length ∧ ∃ d w,Duals L ps F.length (CB B F.length) d w:=by
 have hlen:=hF.len
 match F,ps,hF,hS,hlen with
 | [],[],hF,h1,_=>exact ⟨by simp,by simp,1,fun _ _=>0,by decide,fun k h=>absurd h (by simp),fun k h=>absurd h (by simp),fun k h=>absurd h (by simp)⟩
 | [f],[p],hF,h1,_ =>
  exact ⟨by simp,dB1 hL (h1 (vr f) (by simp [latM])) (sc_ne hD (hF.pos 0 (by simp):0<vr f p))⟩
 | [f,g],[p,q],hF,h1,_ =>
  refine ⟨by simp,dB2 hL (h1 (vr f) (by simp [latM])) (h1 (vr g) (by simp [latM])) ?_⟩
  have a0:0<vr f p:=hF.pos 0 (by simp)
  have a1:0<vr g q:=hF.pos 1 (by simp)
  have z1:vr g p=0:=hF.left 1 (by simp) p (hF.inc 0 1 (by omega) (by simp))
  unfold det2 sc; rw [z1]
  have:=Int.mul_ne_zero (sc_ne hD a0) (sc_ne hD a1); simpa using this
 | [f,g,e],[p,q,s],hF,h1,_ =>
  refine ⟨by simp,dB3 hL (h1 (vr f) (by simp [latM])) (h1 (vr g) (by simp [latM])) (h1 (vr e) (by simp [latM])) ?_⟩
  have a0:0<vr f p:=hF.pos 0 (by simp)
  have a1:0<vr g q:=hF.pos 1 (by simp)
  have a2:0<vr e s:=hF.pos 2 (by simp)
  have z1:vr g p=0:=hF.left 1 (by simp) p (hF.inc 0 1 (by omega) (by simp))
  have z2:vr e p=0:=hF.left 2 (by simp) p (hF.inc 0 2 (by omega) (by simp))
  have z3:vr e q=0:=hF.left 2 (by simp) q (hF.inc 1 2 (by omega) (by simp))
  simp only [det3,det2,sc,z1,z2,z3]
  have:=Int.mul_ne_zero (sc_ne hD a0) (Int.mul_ne_zero (sc_ne hD a1) (sc_ne hD a2)); simpa using this
 | [f,g,e,c],[p,q,s,t],hF,h1,_ =>
  refine ⟨by simp,dB4 hL (h1 (vr f) (by simp [latM])) (h1 (vr g) (by simp [latM])) (h1 (vr e) (by simp [latM])) (h1 (vr c) (by simp [latM])) ?_⟩
  have a0:0<vr f p:=hF.pos 0 (by simp)
  have a1:0<vr g q:=hF.pos 1 (by simp)
  have a2:0<vr e s:=hF.pos 2 (by simp)
  have a3:0<vr c t:=hF.pos 3 (by simp)
  have z1:vr g p=0:=hF.left 1 (by simp) p (hF.inc 0 1 (by omega) (by simp))
  have z2:vr e p=0:=hF.left 2 (by simp) p (hF.inc 0 2 (by omega) (by simp))
  have z3:vr e q=0:=hF.left 2 (by simp) q (hF.inc 1 2 (by omega) (by simp))
  have z4:vr c p=0:=hF.left 3 (by simp) p (hF.inc 0 3 (by omega) (by simp))
  have z5:vr c q=0:=hF.left 3 (by simp) q (hF.inc 1 3 (by omega) (by simp))
  have z6:vr c s=0:=hF.left 3 (by simp) s (hF.inc 2 3 (by omega) (by simp))
  simp only [det4,det3,det2,sc,z1,z2,z3,z4,z5,z6]
  have:=Int.mul_ne_zero (sc_ne hD a0) (Int.mul_ne_zero (sc_ne hD a1) (Int.mul_ne_zero (sc_ne hD a2) (sc_ne hD a3))); simpa using this
 | _::_::_::_::_::F',p::q::s::t::u::ps',hF,h1,_ =>
  exfalso
  have i1:=hF.inc 0 1 (by omega) (by simp)
  have i2:=hF.inc 1 2 (by omega) (by simp)
  have i3:=hF.inc 2 3 (by omega) (by simp)
  have i4:=hF.inc 3 4 (by omega) (by simp)
  have i5:=hF.lt 4 (by simp)
  omega
 | [],_::_,hF,h1,hl=>simp at hl
 | [_],[],hF,h1,hl=>simp at hl
 | [_],_::_::_,hF,h1,hl=>simp at hl
 | [_,_],[],hF,h1,hl=>simp at hl
 | [_,_],[_],hF,h1,hl=>simp at hl
 | [_,_],_::_::_::_,hF,h1,hl=>simp at hl
 | [_,_,_],[],hF,h1,hl=>simp at hl
 | [_,_,_],[_],hF,h1,hl=>simp at hl
 | [_,_,_],[_,_],hF,h1,hl=>simp at hl
 | [_,_,_],_::_::_::_::_,hF,h1,hl=>simp at hl
 | _::_::_::_::_,[],hF,h1,hl=>simp at hl
 | _::_::_::_::_,[_],hF,h1,hl=>simp at hl
 | _::_::_::_::_,[_,_],hF,h1,hl=>simp at hl
 | _::_::_::_::_,[_,_,_],hF,h1,hl=>simp at hl
 | _::_::_::_::_::_,[_,_,_,_],hF,h1,hl=>simp at hl
 | [_,_,_,_],_::_::_::_::_::_,hF,h1,hl=>simp at hl
end Go.Proofs.YtjnpakablgommaaGreatDoor
