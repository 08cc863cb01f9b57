/- Part 17 of the proof of the claim: contracts of the functions that it reaches, and plain laws; no condition. -/
import Derived.Test.YtjnpakablgommaaGreatDoorV16
import Derived.Test.YtjnpakablgommaaGreatDoorV13
import Derived.Test.YtjnpakablgommaaGreatDoorV15
set_option maxRecDepth 100000
namespace Go.Proofs.YtjnpakablgommaaGreatDoor
open Go.RowKit Go.Sort
set_option maxHeartbeats 2000000 in
theorem lless_any {w0 w:World} {ga ca gb ob cb:Nat} {sb:Option Addr} {k:Int} {a b:List Int} (hO:OwnV 79 w0.heap.size w ga ca (ss a)) (hB:Sl w sb gb ob (ss b)) (hne:gb≠ga)
  (hlen:b.length=a.length) (hl:a.length≤1000000)
  (hbig : ∀ (i:Nat) (h:i<b.length) (h':i<a.length),nd a[i]<LIM∧nd (k*b[i])<LIM∧nd k+nd b[i]≤LIM) (hL:Laid w0) (hE0:Ext w0 w) :
  Calls Tryz.prog 246 #[slv ga a.length ca,I k,.slice sb a.length cb] w fun e w'=>e = .returned (.tuple #[])∧OwnV 79 w0.heap.size w' ga ca (ss (subK k a b))∧w.grownBy w' (some ga):=by
 have hkz:(Lib.itoa k==[48])=decide (k=0):=itoa_eq_zero k
 by_cases hk0:k=0
 ·rw [decide_eq_true hk0] at hkz
  subst hk0
  rw [subK_zero a b (by omega)]
  clear hbig hL hlen hl hB
  go_enter Tryz.func246,Tryz.ntmps246
  go_wp2_with fail
  refine bodyPost_ret (results_none rfl _ _ _) rfl ?_
  exact ⟨rfl,hO,World.grownBy.refl _ _⟩
 ·rw [decide_eq_false hk0] at hkz
  have HL:=Lib.hid hL
  have HB:=Lib.hid hB
  have Hbig:=Lib.hid hbig
  have Hlen:=Lib.hid hlen
  clear hL hB hbig hk0 hlen
  go_enter Tryz.func246,Tryz.ntmps246
  go_wp2_with fail
  go_loopw [12] (fun idx wr => ∃ i:Nat,i≤a.length∧idx = .int .i64 i∧OwnV 79 w0.heap.size wr ga ca (ss (subK k a (b.take i)))∧w.grownBy wr (some ga)) (fun idx _=>a.length-(intOf idx).toNat)
  case atStart=>exact ⟨0,by omega,by go_num,by simpa [subK_nil] using hO,World.grownBy.refl _ _⟩
  case round =>
   obtain ⟨i,hi,rfl,hOr,hG⟩:=hrel
   have hga:=hO.lt.1
   by_cases hlt:i<a.length
   ·have hib:i<b.length:=by rw [Hlen.out]; exact hlt
    obtain ⟨x,hx⟩ : ∃ x,x=a[i]:=⟨_,rfl⟩
    obtain ⟨y,hy⟩ : ∃ y,y=b[i]:=⟨_,rfl⟩
    obtain rfl:=HB.out.addr (by simpa using (by omega:0<b.length))
    have cb:wr.cell? ⟨gb,ob+i,none⟩=some (I y):=by
     refine grown_frozen_cell hG hne ?_
     rw [hy]
     exact HB.out.cell i _ (by simp [ss,hib])
    have ca':wr.cell? ⟨ga,i,none⟩=some (I x):=by
     rw [hOr.cell (by simpa using hlt)]
     simp only [ss,List.getElem_map]
     rw [subK_get k a _ i hlt (by rw [List.length_take]; omega),hx]
    have fa:=hOr.frozen i
    have hEr:Ext w0 wr:=ext_trans_grown hE0 hG hga
    have hstep:=subK_step k a b i hib hlt
    rw [← hx, ← hy] at hstep
    have Hstep:=Lib.hid hstep
    obtain ⟨n1,n2,n3⟩:=Hbig.out i hib hlt
    rw [← hx] at n1
    rw [← hy] at n2 n3
    have hii:(i:Int)<(a.length:Int):=by omega
    have hEr2:=Lib.hid hEr
    have c1:=Lib.hid (quietC (w:=wr) (fun W h=>Mul_any (a:=k) (b:=y) (w:=W) n3 (HL.out.ext (hEr2.out.trans h))))
    have c2:=Lib.hid (quietC (w:=wr) (fun W h=>Sub_any (a:=x) (b:=k*y) (w:=W) n1 n2 (HL.out.ext (hEr2.out.trans h))))
    have k1:=cell_regrown ca'
    have k2:=cell_regrown cb
    clear hx hy hstep n1 n2 n3 hO hEr hib
    go_wp2_with fail
    refine wp_region_quiet_tail 10 (by kernel_rfl) (by kernel_rfl) ?_
    simp only [List.take_succ_cons,List.take_zero,List.drop_succ_cons,List.drop_zero]
    repeat (quiet_step (first | exact c1.out _ _ | exact c2.out _ _))
    refine wpQuiet_nil ?_
    intro _ hw'
    obtain ⟨⟨dq,osq⟩,hw''⟩:=hw'
    subst hw''
    have hE5:=ext_regrown wr dq osq
    have hO5:=hOr.ext hE5
    have d5:=hE5.cell ca'
    clear c1 c2 k1 k2
    generalize grow (redrawn wr dq) osq=w5 at *
    have f5:=hO5.frozen i
    obtain ⟨hO6,hG6⟩:=hO5.set i (I (x-k*y))
    rw [← ss_set, ← Hstep.out] at hO6
    have hG5:=grown_trans hG (grown_trans (grown_ext hE5 (some ga)) hG6)
    clear hE5 hO5 hG6
    go_wp2_with fail
    go_roundw
    case rel=>exact ⟨i+1,by omega,by go_num,hO6,hG5⟩
    case measure=>simp [intOf] <;> omega
   ·go_wp2_with fail
    go_end0
    refine ⟨rfl,?_,hG⟩
    rw [List.take_of_length_le (by rw [Hlen.out]; omega)] at hOr
    exact hOr
set_option maxHeartbeats 2000000 in
theorem lneg_part {B:Nat} {w:World} {gx cx o n cp:Nat} {a:List Int} (hX:OwnV 79 B w gx cx (ss a)) (hn:a.length=o+n) (hl:n≤1000000) (hbig : ∀ z∈a,nd z≤LIM) :
  Calls Tryz.prog 247 #[.slice (some ⟨gx,o,none⟩) n cp] w fun e w'=>e = .returned (.tuple #[])∧OwnV 79 B w' gx cx (ss (a.take o++(a.drop o).map fun z => -z))∧w.grownBy w' (some gx):=by
 have Hb:=Lib.hid hbig
 have Hn:=Lib.hid hn
 clear hbig hn
 go_enter Tryz.func247,Tryz.ntmps247
 go_wp2_with fail
 go_loopw [6] (fun jdx wi => ∃ j:Nat,j≤n∧jdx = .int .i64 j∧OwnV 79 B wi gx cx (ss (negF o j a))∧w.grownBy wi (some gx)) (fun jdx _=>n-(intOf jdx).toNat)
 case atStart=>exact ⟨0,by omega,by go_num,by rw [negF_zero]; exact hX,World.grownBy.refl _ _⟩
 case round =>
  obtain ⟨j,hj,rfl,hOj,hG⟩:=hrel
  by_cases hlt:j<n
  ·have hjl:o+j<a.length:=by rw [Hn.out]; omega
   obtain ⟨x,hx⟩ : ∃ x,x=a[o+j]:=⟨_,rfl⟩
   have cj:wr.cell? ⟨gx,o+j,none⟩=some (I x):=by
    rw [hOj.cell (by simpa using hjl)]
    simp only [ss,List.getElem_map]
    rw [negF_get Hn.out hlt,hx]
   have hneg:=Lib.hid (Neg_any (z:=x) (Hb.out x (by rw [hx]; exact List.getElem_mem hjl)))
   have Hst:=Lib.hid (negF_step Hn.out hlt)
   rw [← hx] at Hst
   have hjj:(j:Int)<(n:Int):=by omega
   clear hx hX hjl
   go_wp2_with fail
   refine (hneg.out _).mono ?_
   rintro e w5 ⟨rfl,hE5⟩
   have f5:=(hOj.ext hE5).frozen (o+j)
   have d5:=hE5.cell cj
   obtain ⟨hO6,hG6⟩:=(hOj.ext hE5).set (o+j) (I (-x))
   rw [← ss_set, ← Hst.out] at hO6
   have hG7:=grown_trans hG (grown_trans (grown_ext hE5 (some gx)) hG6)
   clear hE5 hOj hG6 hG
   go_wp2_with fail
   go_roundw
   case rel=>exact ⟨j+1,by omega,by go_num,hO6,hG7⟩
   case measure=>simp [intOf] <;> omega
  ·have hje:j=n:=by omega
   subst hje
   rw [negF_all Hn.out] at hOj
   go_wp2_with fail
   go_end0
   exact ⟨rfl,hOj,hG⟩
theorem lneg_row {B:Nat} {w:World} {gx cx n:Nat} {a:List Int} (hX:OwnV 79 B w gx cx (ss a)) (hn:a.length=n) (hl:n≤1000000) (hbig : ∀ z∈a,nd z≤LIM) :
  Calls Tryz.prog 247 #[slv gx n cx] w fun e w'=>e = .returned (.tuple #[])∧OwnV 79 B w' gx cx (ss (a.map fun z => -z))∧w.grownBy w' (some gx):=by
 have:=lneg_part (o:=0) (cp:=cx) hX (by omega) hl hbig
 simpa using this
end Go.Proofs.YtjnpakablgommaaGreatDoor
namespace Go.Proofs.YtjnpakablgommaaGreatDoor
open Hnf (V Span Ech Red)
theorem lin_zero {M:List V} {f:V→Int} (h0:f (fun _=>0)=0) (h1 : ∀ v q u,f (Hnf.sub v q u)=f v-q*f u) (h : ∀ r∈M,f r=0) {v:V} (hv:Span M v):f v=0:=by
 induction hv with
 | zero=>exact h0
 | step q _ hr ih=>rw [h1,ih,h _ hr]; simp
theorem lin_row {M:List V} {f:V→Int} (h0:f (fun _=>0)=0) (h1 : ∀ v q u,f (Hnf.sub v q u)=f v-q*f u) {v:V} (hv:Span M v) (hne:f v≠0) : ∃ r∈M,f r≠0 :=
 Classical.byContradiction fun hc=>hne (lin_zero h0 h1 (fun r hr=>Classical.byContradiction fun h=>hc ⟨r,hr,h⟩) hv)
def det2 (x y:V) (p q:Nat):Int:=x p*y q-x q*y p
def det3 (x y z:V) (p q s:Nat):Int:=x p*det2 y z q s-x q*det2 y z p s+x s*det2 y z p q
def det4 (x y z t:V) (p q s u:Nat):Int:=x p*det3 y z t q s u-x q*det3 y z t p s u+x s*det3 y z t p q u-x u*det3 y z t p q s
def comb (a:Nat→Int) (w:Nat→V):Nat→V
 | 0=>fun _=>0
 | k+1=>Hnf.sub (comb a w k) (-(a k)) (w k)
theorem comb_span {M:List V} {a:Nat→Int} {w:Nat→V} : ∀ {r:Nat},(∀ k,k<r→Span M (w k))→Span M (comb a w r)
 | 0,_ => .zero
 | r+1,h=>(comb_span (r:=r) fun k hk=>h k (by omega)).sub _ (h r (by omega))
theorem comb_out {a:Nat→Int} {w:Nat→V} {j:Nat} : ∀ {r:Nat},(∀ k,k<r→w k j=0)→comb a w r j=0
 | 0,_=>rfl
 | r+1,h=>by simp only [comb,Hnf.sub]; rw [comb_out (r:=r) (fun k hk=>h k (by omega)),h r (by omega)]; simp
theorem comb_at {a:Nat→Int} {w:Nat→V} {j s:Nat} {d:Int} : ∀ {r:Nat},s<r→(∀ k,k<r→w k j=if k=s then d else 0)→comb a w r j=a s*d
 | 0,hs,_=>by omega
 | r+1,hs,h=>by
  simp only [comb,Hnf.sub]
  by_cases e:s=r
  ·subst e
   rw [comb_out (r:=s) (fun k hk=>by rw [h k (by omega),if_neg (by omega)]),h s (by omega),if_pos rfl]; simp [Int.neg_mul]
  ·rw [comb_at (r:=r) (s:=s) (d:=d) (by omega) (fun k hk=>h k (by omega)),h r (by omega),if_neg (by omega)]; simp
theorem comb_abs {a:Nat→Int} {w:Nat→V} {j A C:Nat} : ∀ {r:Nat},(∀ k,k<r→(a k).natAbs≤A)→(∀ k,k<r→(w k j).natAbs≤C)→(comb a w r j).natAbs≤r*(A*C)
 | 0,_,_=>by simp [comb]
 | r+1,h,h'=>by
  have ih:=comb_abs (r:=r) (j:=j) (fun k hk=>h k (by omega)) (fun k hk=>h' k (by omega))
  have h2:(a r*w r j).natAbs≤A*C:=by rw [Int.natAbs_mul]; exact Nat.mul_le_mul (h r (by omega)) (h' r (by omega))
  have e:(r+1)*(A*C)=r*(A*C)+A*C:=Nat.succ_mul _ _
  simp only [comb,Hnf.sub,Int.neg_mul]
  omega
structure Duals (M:List V) (ps:List Nat) (r C:Nat) (d:Int) (w:Nat→V):Prop where
 ne:d≠0
 span : ∀ k,k<r→Span M (w k)
 at' : ∀ k,k<r → ∀ s,s<r→w k (ps.getD s 0)=if k=s then d else 0
 abs : ∀ k,k<r → ∀ j,(w k j).natAbs≤C
theorem wps_mem {ps:List Nat} {F:Mx} (hl:ps.length=F.length) {g:Nat×V} (hg:g∈wps ps F) : ∃ i,i<F.length∧g=(ps.getD i 0,vr (F.getD i [])):=by
 obtain ⟨x,hx,rfl⟩:=List.mem_map.1 hg
 obtain ⟨i,hi,hxe⟩:=List.getElem_of_mem hx
 have hi':i<ps.length∧i<F.length:=by simp at hi; omega
 obtain rfl:x=(ps[i]'hi'.1,F[i]'hi'.2):=by rw [← hxe]; exact List.getElem_zip
 exact ⟨i,hi'.2,by rw [getD_get hi'.1,getD_get hi'.2]⟩
theorem pivots_zero {n:Nat} {ps:List Nat} {F:Mx} (h:IsH n ps F) {v:V} (hv:Span (latM F) v) (hz : ∀ i,i<F.length→v (ps.getD i 0)=0) : ∀ j,v j=0:=by
 rcases Hnf.first v with h0 | ⟨j,hj,hz'⟩
 ·exact h0
 ·exfalso
  rw [← wps_rows h.len] at hv
  obtain ⟨g,hg,e,_⟩:=h.ech.lead hv hj hz'
  obtain ⟨i,hi,rfl⟩:=wps_mem h.len hg
  exact hj (by rw [← e]; exact hz i hi)
theorem pivot_dvd {n:Nat} {ps:List Nat} {F:Mx} (h:IsH n ps F) {v:V} (hv:Span (latM F) v) {k:Nat} {d:Int} (hd:d≠0) (hk:k<F.length) (hz : ∀ s,s<F.length→v (ps.getD s 0)=if k=s then d else 0):eM F k (ps.getD k 0)∣d:=by
 rcases Hnf.first v with h0 | ⟨j,hj,hz'⟩
 ·exact absurd (h0 (ps.getD k 0)) (by rw [hz k hk,if_pos rfl]; exact hd)
 ·rw [← wps_rows h.len] at hv
  obtain ⟨g,hg,e,hdv⟩:=h.ech.lead hv hj hz'
  obtain ⟨i,hi,rfl⟩:=wps_mem h.len hg
  simp only at e hdv
  subst e
  have:=hz i hi
  by_cases e:k=i
  ·subst e
   rw [if_pos rfl] at this
   rw [this] at hdv
   exact hdv
  ·rw [if_neg e] at this; exact absurd this hj
theorem duals_small {n C:Nat} {ps:List Nat} {F:Mx} {d:Int} {w:Nat→V} (h:IsH n ps F) (hD:Duals (latM F) ps F.length C d w) (i:Nat) (hi:i<F.length) (j:Nat):(eM F i j).natAbs≤F.length*C:=by
 have hpk : ∀ k,k<F.length→(eM F k (ps.getD k 0)).natAbs≤d.natAbs:=fun k hk=>by
  obtain ⟨c,hc⟩:=pivot_dvd h (hD.span k hk) hD.ne hk (hD.at' k hk)
  have:=hD.ne
  have hc0:c≠0:=by intro e; subst e; simp at hc; exact this hc
  rw [hc,Int.natAbs_mul]
  exact Nat.le_mul_of_pos_right _ (by omega)
 have hik : ∀ k,k<F.length→(eM F i (ps.getD k 0)).natAbs≤d.natAbs:=fun k hk=>by
  have:=hpk k hk
  rcases Nat.lt_trichotomy i k with hlt | rfl | hgt
  ·have:=h.red i k hlt hk; omega
  ·exact this
  ·rw [h.left i hi _ (h.inc k i hgt hi)]; simp
 have hF:Span (latM F) (vr (F.getD i [])) := .mem (by rw [getD_get hi]; exact List.mem_map.2 ⟨F[i],List.getElem_mem hi,rfl⟩)
 have hz:=pivots_zero h (v:=Hnf.sub (Hnf.sub (fun _=>0) (-d) (vr (F.getD i []))) 1 (comb (fun k=>eM F i (ps.getD k 0)) w F.length)) ((Span.zero.sub (-d) hF).sub 1 (comb_span hD.span)) (by
  intro s hs
  simp only [Hnf.sub]
  rw [comb_at (s:=s) (d:=d) hs (fun k hk=>hD.at' k hk s hs)]
  show 0 - -d*eM F i (ps.getD s 0)-1*(eM F i (ps.getD s 0)*d)=0
  grind) j
 have e:d*eM F i j=comb (fun k=>eM F i (ps.getD k 0)) w F.length j:=by
  simp only [Hnf.sub] at hz
  have:0 - -d*eM F i j-1*comb (fun k=>eM F i (ps.getD k 0)) w F.length j=0:=hz
  grind
 have hb:=comb_abs (a:=fun k=>eM F i (ps.getD k 0)) (w:=w) (j:=j) (A:=d.natAbs) (C:=C) (r:=F.length) hik (fun k hk=>hD.abs k hk j)
 rw [← e,Int.natAbs_mul] at hb
 have e2:F.length*(d.natAbs*C)=d.natAbs*(F.length*C):=by grind
 rw [e2] at hb
 exact Nat.le_of_mul_le_mul_left hb (by have:=hD.ne; omega)
theorem mul_abs {a b:Int} {A B:Nat} (h:a.natAbs≤A) (h':b.natAbs≤B):(a*b).natAbs≤A*B:=by rw [Int.natAbs_mul]; exact Nat.mul_le_mul h h'
theorem det2_abs {x y:V} (hx : ∀ j,(x j).natAbs≤20) (hy : ∀ j,(y j).natAbs≤20) (p q:Nat):(det2 x y p q).natAbs≤800:=by
 have h1:=mul_abs (hx p) (hy q)
 have h2:=mul_abs (hx q) (hy p)
 unfold det2; omega
theorem det3_abs {x y z:V} (hx : ∀ j,(x j).natAbs≤20) (hy : ∀ j,(y j).natAbs≤20) (hz : ∀ j,(z j).natAbs≤20) (p q s:Nat):(det3 x y z p q s).natAbs≤48000:=by
 have h1:=mul_abs (hx p) (det2_abs hy hz q s)
 have h2:=mul_abs (hx q) (det2_abs hy hz p s)
 have h3:=mul_abs (hx s) (det2_abs hy hz p q)
 unfold det3; omega
theorem det4_abs {x y z t:V} (hx : ∀ j,(x j).natAbs≤20) (hy : ∀ j,(y j).natAbs≤20) (hz : ∀ j,(z j).natAbs≤20) (ht : ∀ j,(t j).natAbs≤20) (p q s u:Nat):(det4 x y z t p q s u).natAbs≤3840000:=by
 have h1:=mul_abs (hx p) (det3_abs hy hz ht q s u)
 have h2:=mul_abs (hx q) (det3_abs hy hz ht p s u)
 have h3:=mul_abs (hx s) (det3_abs hy hz ht p q u)
 have h4:=mul_abs (hx u) (det3_abs hy hz ht p q s)
 unfold det4; omega
theorem span_of_eq {M:List V} {v u:V} (h:Span M v) (e : ∀ j,u j=v j):Span M u:=by rw [show u=v from funext e]; exact h
theorem lt2 {s:Nat} (h:s<2):s=0∨s=1:=by omega
theorem lt3 {s:Nat} (h:s<3):s=0∨s=1∨s=2:=by omega
theorem lt4 {s:Nat} (h:s<4):s=0∨s=1∨s=2∨s=3:=by omega
theorem duals0 (M:List V) (ps:List Nat):Duals M ps 0 3840000 1 (fun _ _=>0):=⟨by decide,fun k h=>by omega,fun k h=>by omega,fun k h=>by omega⟩
theorem duals1 {M:List V} {p:Nat} {f:V} (hM : ∀ r∈M,∀ j,(r j).natAbs≤20) (hf:Span M f) (h:f p≠0) : ∃ d w,Duals M [p] 1 3840000 d w:=by
 obtain ⟨x,hx,hne⟩:=lin_row (f:=fun v=>v p) rfl (fun v q u=>rfl) hf h
 refine ⟨x p,fun _=>x,hne,fun k _ => .mem hx,fun k hk s hs => ?_,fun k _ j=>by have:=hM x hx j; omega⟩
 obtain rfl:k=0:=by omega
 obtain rfl:s=0:=by omega
 rw [if_pos rfl]; rfl
theorem duals2 {M:List V} {p q:Nat} {f g:V} (hM : ∀ r∈M,∀ j,(r j).natAbs≤20) (hf:Span M f) (hg:Span M g) (h:det2 f g p q≠0) : ∃ d w,Duals M [p,q] 2 3840000 d w:=by
 obtain ⟨x,hx,h⟩:=lin_row (f:=fun v=>det2 v g p q) (by simp [det2]) (fun v k u=>by simp only [det2,Hnf.sub]; grind) hf h
 obtain ⟨y,hy,h⟩:=lin_row (f:=fun v=>det2 x v p q) (by simp [det2]) (fun v k u=>by simp only [det2,Hnf.sub]; grind) hg h
 have bx:=hM x hx
 have bY:=hM y hy
 refine ⟨det2 x y p q,fun k=>if k=0 then fun j=>det2 x y j q else fun j=>det2 x y p j,h,fun k hk => ?_,fun k hk s hs => ?_,fun k hk j => ?_⟩
 ·rcases lt2 hk with rfl | rfl
  ·exact span_of_eq ((Span.zero.step (-(y q)) hx).step (x q) hy) fun j=>by simp [det2,Hnf.sub]; grind
  ·exact span_of_eq ((Span.zero.step (y p) hx).step (-(x p)) hy) fun j=>by simp [det2,Hnf.sub]; grind
 ·rcases lt2 hk with rfl | rfl <;> rcases lt2 hs with rfl | rfl <;> simp [det2] <;> grind
 ·rcases lt2 hk with rfl | rfl
  ·have:=det2_abs bx bY j q; simp; omega
  ·have:=det2_abs bx bY p j; simp; omega
theorem duals3 {M:List V} {p q s:Nat} {f g e:V} (hM : ∀ r∈M,∀ j,(r j).natAbs≤20) (hf:Span M f) (hg:Span M g) (he:Span M e) (h:det3 f g e p q s≠0) : ∃ d w,Duals M [p,q,s] 3 3840000 d w:=by
 obtain ⟨x,hx,h⟩:=lin_row (f:=fun v=>det3 v g e p q s) (by simp [det3]) (fun v k u=>by simp only [det3,Hnf.sub]; grind) hf h
 obtain ⟨y,hy,h⟩:=lin_row (f:=fun v=>det3 x v e p q s) (by simp [det3,det2]) (fun v k u=>by simp only [det3,det2,Hnf.sub]; grind) hg h
 obtain ⟨z,hz,h⟩:=lin_row (f:=fun v=>det3 x y v p q s) (by simp [det3,det2]) (fun v k u=>by simp only [det3,det2,Hnf.sub]; grind) he h
 have bx:=hM x hx
 have bY:=hM y hy
 have bz:=hM z hz
 refine ⟨det3 x y z p q s,fun k=>if k=0 then fun j=>det3 x y z j q s else if k=1 then fun j=>det3 x y z p j s else fun j=>det3 x y z p q j,h,fun k hk => ?_,fun k hk t ht => ?_,fun k hk j => ?_⟩
 ·rcases lt3 hk with rfl | rfl | rfl
  ·exact span_of_eq (((Span.zero.step (-(det2 y z q s)) hx).step (det2 x z q s) hy).step (-(det2 x y q s)) hz) fun j=>by simp [det3,det2,Hnf.sub]; grind
  ·exact span_of_eq (((Span.zero.step (det2 y z p s) hx).step (-(det2 x z p s)) hy).step (det2 x y p s) hz) fun j=>by simp [det3,det2,Hnf.sub]; grind
  ·exact span_of_eq (((Span.zero.step (-(det2 y z p q)) hx).step (det2 x z p q) hy).step (-(det2 x y p q)) hz) fun j=>by simp [det3,det2,Hnf.sub]; grind
 ·rcases lt3 hk with rfl | rfl | rfl <;> rcases lt3 ht with rfl | rfl | rfl <;> simp [det3,det2] <;> grind
 ·rcases lt3 hk with rfl | rfl | rfl
  ·have:=det3_abs bx bY bz j q s; simp; omega
  ·have:=det3_abs bx bY bz p j s; simp; omega
  ·have:=det3_abs bx bY bz p q j; simp; omega
theorem duals4 {M:List V} {p q s t:Nat} {f g e c:V} (hM : ∀ r∈M,∀ j,(r j).natAbs≤20) (hf:Span M f) (hg:Span M g) (he:Span M e) (hc:Span M c) (h:det4 f g e c p q s t≠0) : ∃ d w,Duals M [p,q,s,t] 4 3840000 d w:=by
 obtain ⟨x,hx,h⟩:=lin_row (f:=fun v=>det4 v g e c p q s t) (by simp [det4]) (fun v k u=>by simp only [det4,Hnf.sub]; grind) hf h
 obtain ⟨y,hy,h⟩:=lin_row (f:=fun v=>det4 x v e c p q s t) (by simp [det4,det3]) (fun v k u=>by simp only [det4,det3,Hnf.sub]; grind) hg h
 obtain ⟨z,hz,h⟩:=lin_row (f:=fun v=>det4 x y v c p q s t) (by simp [det4,det3,det2]) (fun v k u=>by simp only [det4,det3,det2,Hnf.sub]; grind) he h
 obtain ⟨o,ho,h⟩:=lin_row (f:=fun v=>det4 x y z v p q s t) (by simp [det4,det3,det2]) (fun v k u=>by simp only [det4,det3,det2,Hnf.sub]; grind) hc h
 have bx:=hM x hx
 have bY:=hM y hy
 have bz:=hM z hz
 have bo:=hM o ho
 refine ⟨det4 x y z o p q s t,fun k=>if k=0 then fun j=>det4 x y z o j q s t else if k=1 then fun j=>det4 x y z o p j s t else if k=2 then fun j=>det4 x y z o p q j t else fun j=>det4 x y z o p q s j,h,fun k hk => ?_,fun k hk i hi => ?_,fun k hk j => ?_⟩
 ·rcases lt4 hk with rfl | rfl | rfl | rfl
  ·exact span_of_eq ((((Span.zero.step (-(det3 y z o q s t)) hx).step (det3 x z o q s t) hy).step (-(det3 x y o q s t)) hz).step (det3 x y z q s t) ho) fun j=>by simp [det4,det3,det2,Hnf.sub]; grind
  ·exact span_of_eq ((((Span.zero.step (det3 y z o p s t) hx).step (-(det3 x z o p s t)) hy).step (det3 x y o p s t) hz).step (-(det3 x y z p s t)) ho) fun j=>by simp [det4,det3,det2,Hnf.sub]; grind
  ·exact span_of_eq ((((Span.zero.step (-(det3 y z o p q t)) hx).step (det3 x z o p q t) hy).step (-(det3 x y o p q t)) hz).step (det3 x y z p q t) ho) fun j=>by simp [det4,det3,det2,Hnf.sub]; grind
  ·exact span_of_eq ((((Span.zero.step (det3 y z o p q s) hx).step (-(det3 x z o p q s)) hy).step (det3 x y o p q s) hz).step (-(det3 x y z p q s)) ho) fun j=>by simp [det4,det3,det2,Hnf.sub]; grind
 ·rcases lt4 hk with rfl | rfl | rfl | rfl <;> rcases lt4 hi with rfl | rfl | rfl | rfl <;> simp [det4,det3,det2] <;> grind
 ·rcases lt4 hk with rfl | rfl | rfl | rfl
  ·have:=det4_abs bx bY bz bo j q s t; simp; omega
  ·have:=det4_abs bx bY bz bo p j s t; simp; omega
  ·have:=det4_abs bx bY bz bo p q j t; simp; omega
  ·have:=det4_abs bx bY bz bo p q s j; simp; omega
theorem Duals.mono {M N:List V} {ps:List Nat} {r C:Nat} {d:Int} {w:Nat→V} (h:Duals M ps r C d w) (hM : ∀ v∈M,Span N v):Duals N ps r C d w:=⟨h.ne,fun k hk=>(h.span k hk).trans hM,h.at',h.abs⟩
theorem mulpos_ne {a b:Int} (h:0<a) (h':0<b):a*b≠0:=by have:=Int.mul_pos h h'; omega
theorem hnf_small {n:Nat} {M F:Mx} (hn:n≤4) (hM : ∀ r∈M,∀ z∈r,z.natAbs≤20) (h:HnfOf n M F) : ∀ i,i<F.length → ∀ j,(eM F i j).natAbs≤15360000:=by
 obtain ⟨⟨ps,hF⟩,h1,h2⟩:=h
 have hM' : ∀ r∈latM M,∀ j,(r j).natAbs≤20:=by
  intro r hr j
  obtain ⟨l,hl,rfl⟩:=List.mem_map.1 hr
  show (l.getD j 0).natAbs≤20
  rw [List.getD_eq_getElem?_getD]
  rcases Nat.lt_or_ge j l.length with hj | hj
  ·rw [List.getElem?_eq_getElem hj]; exact hM l hl _ (List.getElem_mem hj)
  ·rw [List.getElem?_eq_none hj]; simp
 have hD:F.length≤4 ∧ ∃ d w,Duals (latM M) ps F.length 3840000 d w:=by
  have hlen:=hF.len
  match F,ps,hF,h1,hlen with
  | [],[],hF,h1,_=>exact ⟨by simp,_,_,duals0 _ _⟩
  | [f],[p],hF,h1,_ =>
   exact ⟨by simp,duals1 hM' (h1 (vr f) (by simp [latM])) (by have:0<vr f p:=hF.pos 0 (by simp); omega)⟩
  | [f,g],[p,q],hF,h1,_ =>
   refine ⟨by simp,duals2 hM' (h1 (vr f) (by simp [latM])) (h1 (vr g) (by simp [latM])) ?_⟩
   have a0:0<vr f p:=hF.pos 0 (by simp)
   have a1:0<vr g q:=hF.pos 1 (by simp)
   have z1:vr g p=0:=hF.left 1 (by simp) p (hF.inc 0 1 (by omega) (by simp))
   unfold det2; rw [z1]
   have:=mulpos_ne a0 a1; simpa using this
  | [f,g,e],[p,q,s],hF,h1,_ =>
   refine ⟨by simp,duals3 hM' (h1 (vr f) (by simp [latM])) (h1 (vr g) (by simp [latM])) (h1 (vr e) (by simp [latM])) ?_⟩
   have a0:0<vr f p:=hF.pos 0 (by simp)
   have a1:0<vr g q:=hF.pos 1 (by simp)
   have a2:0<vr e s:=hF.pos 2 (by simp)
   have z1:vr g p=0:=hF.left 1 (by simp) p (hF.inc 0 1 (by omega) (by simp))
   have z2:vr e p=0:=hF.left 2 (by simp) p (hF.inc 0 2 (by omega) (by simp))
   have z3:vr e q=0:=hF.left 2 (by simp) q (hF.inc 1 2 (by omega) (by simp))
   simp only [det3,det2,z1,z2,z3]
   have:=mulpos_ne a0 (Int.mul_pos a1 a2); simpa using this
  | [f,g,e,c],[p,q,s,t],hF,h1,_ =>
   refine ⟨by simp,duals4 hM' (h1 (vr f) (by simp [latM])) (h1 (vr g) (by simp [latM])) (h1 (vr e) (by simp [latM])) (h1 (vr c) (by simp [latM])) ?_⟩
   have a0:0<vr f p:=hF.pos 0 (by simp)
   have a1:0<vr g q:=hF.pos 1 (by simp)
   have a2:0<vr e s:=hF.pos 2 (by simp)
   have a3:0<vr c t:=hF.pos 3 (by simp)
   have z1:vr g p=0:=hF.left 1 (by simp) p (hF.inc 0 1 (by omega) (by simp))
   have z2:vr e p=0:=hF.left 2 (by simp) p (hF.inc 0 2 (by omega) (by simp))
   have z3:vr e q=0:=hF.left 2 (by simp) q (hF.inc 1 2 (by omega) (by simp))
   have z4:vr c p=0:=hF.left 3 (by simp) p (hF.inc 0 3 (by omega) (by simp))
   have z5:vr c q=0:=hF.left 3 (by simp) q (hF.inc 1 3 (by omega) (by simp))
   have z6:vr c s=0:=hF.left 3 (by simp) s (hF.inc 2 3 (by omega) (by simp))
   simp only [det4,det3,det2,z1,z2,z3,z4,z5,z6]
   have:=mulpos_ne a0 (Int.mul_pos a1 (Int.mul_pos a2 a3)); simpa using this
  | _::_::_::_::_::F',p::q::s::t::u::ps',hF,h1,_ =>
   exfalso
   have i1:=hF.inc 0 1 (by omega) (by simp)
   have i2:=hF.inc 1 2 (by omega) (by simp)
   have i3:=hF.inc 2 3 (by omega) (by simp)
   have i4:=hF.inc 3 4 (by omega) (by simp)
   have i5:=hF.lt 4 (by simp)
   omega
  | [],_::_,hF,h1,hl=>simp at hl
  | [_],[],hF,h1,hl=>simp at hl
  | [_],_::_::_,hF,h1,hl=>simp at hl
  | [_,_],[],hF,h1,hl=>simp at hl
  | [_,_],[_],hF,h1,hl=>simp at hl
  | [_,_],_::_::_::_,hF,h1,hl=>simp at hl
  | [_,_,_],[],hF,h1,hl=>simp at hl
  | [_,_,_],[_],hF,h1,hl=>simp at hl
  | [_,_,_],[_,_],hF,h1,hl=>simp at hl
  | [_,_,_],_::_::_::_::_,hF,h1,hl=>simp at hl
  | _::_::_::_::_,[],hF,h1,hl=>simp at hl
  | _::_::_::_::_,[_],hF,h1,hl=>simp at hl
  | _::_::_::_::_,[_,_],hF,h1,hl=>simp at hl
  | _::_::_::_::_,[_,_,_],hF,h1,hl=>simp at hl
  | _::_::_::_::_::_,[_,_,_,_],hF,h1,hl=>simp at hl
  | [_,_,_,_],_::_::_::_::_::_,hF,h1,hl=>simp at hl
 obtain ⟨hl,d,w,hD⟩:=hD
 intro i hi j
 have:=duals_small hF (hD.mono h2) i hi j
 have:F.length*3840000≤4*3840000:=Nat.mul_le_mul_right _ hl
 omega
def stepQ (r x:List Int):Int:=(x.getD (pv r) 0).fdiv (r.getD (pv r) 0)
def redX:Mx→List Int→List Int
 | [],x=>x
 | r::F,x=>redX F (subK (stepQ r x) x r)
def redQ:Mx→List Int→List Int
 | [],_=>[]
 | r::F,x=>stepQ r x::redQ F (subK (stepQ r x) x r)
theorem redX_snoc (r:List Int) : ∀ (F:Mx) (x:List Int),redX (F++[r]) x=subK (stepQ r (redX F x)) (redX F x) r
 | [],x=>rfl
 | f::F,x=>by rw [List.cons_append,redX,redX,redX_snoc r F]
theorem redQ_snoc (r:List Int) : ∀ (F:Mx) (x:List Int),redQ (F++[r]) x=redQ F x++[stepQ r (redX F x)]
 | [],x=>rfl
 | f::F,x=>by rw [List.cons_append,redQ,redQ,redX,redQ_snoc r F]; rfl
@[simp] theorem redX_length : ∀ (F:Mx) (x:List Int),(redX F x).length=x.length
 | [],x=>rfl
 | f::F,x=>by rw [redX,redX_length F]; simp
@[simp] theorem redQ_length : ∀ (F:Mx) (x:List Int),(redQ F x).length=F.length
 | [],x=>rfl
 | f::F,x=>by rw [redQ,List.length_cons,redQ_length F]; rfl
theorem redX_take {F:Mx} {i:Nat} (h:i<F.length) (x:List Int):redX (F.take (i+1)) x=subK (stepQ (F.getD i []) (redX (F.take i) x)) (redX (F.take i) x) (F.getD i []):=by
 rw [take_snocM h,redX_snoc,getD_get h]
theorem redQ_take {F:Mx} {i:Nat} (h:i<F.length) (x:List Int):redQ (F.take (i+1)) x=redQ (F.take i) x++[stepQ (F.getD i []) (redX (F.take i) x)]:=by
 rw [take_snocM h,redQ_snoc,getD_get h]
def Piv (F:Mx):Prop := ∀ i,i<F.length→(F.getD i []).getD (pv (F.getD i [])) 0≠0
theorem IsH.piv {n:Nat} {ps:List Nat} {F:Mx} (h:IsH n ps F):Piv F:=by
 intro i hi
 have e:=isH_pv h
 have:=h.pos i hi
 rw [e,getD_map pv F i hi 0 []] at this
 have h2:eM F i (pv (F.getD i []))≠0:=by omega
 exact h2
theorem stepQ_abs {r x:List Int} (h:r.getD (pv r) 0≠0) {B:Nat} (hB:0<B) (hx : ∀ z∈x,z.natAbs<B):(stepQ r x).natAbs<B:=by
 refine Nat.lt_of_le_of_lt (fdiv_abs _ h) ?_
 rw [List.getD_eq_getElem?_getD]
 rcases Nat.lt_or_ge (pv r) x.length with hl | hl
 ·rw [List.getElem?_eq_getElem hl]; exact hx _ (List.getElem_mem hl)
 ·rw [List.getElem?_eq_none hl]; simpa using hB
theorem redX_span {n:Nat} : ∀ (F:Mx) (x:List Int),Rect n F→x.length=n→Span (latM F) (Hnf.sub (vr x) 1 (vr (redX F x)))
 | [],x,_,_=>by
  have e:Hnf.sub (vr x) 1 (vr (redX [] x))=fun _=>0:=by funext j; simp [Hnf.sub,redX]
  rw [e]; exact .zero
 | r::F,x,hF,hx=>by
  have hr:r.length=n:=hF r (by simp)
  have ih:=redX_span F (subK (stepQ r x) x r) (fun s hs=>hF s (by simp [hs])) (by simp [hx])
  have h2:Span (latM (r::F)) (Hnf.sub (vr (subK (stepQ r x) x r)) 1 (vr (redX F (subK (stepQ r x) x r)))):=ih.mono fun v hv=>by
   simp only [latM,List.map_cons]; exact List.mem_cons_of_mem _ hv
  have h3:=h2.step (-(stepQ r x)) (r:=vr r) (by simp [latM])
  refine span_of_eq h3 fun j => ?_
  rw [redX,vr_sub _ (by omega)]
  simp only [Hnf.sub]; grind
theorem redX_keep {n:Nat} : ∀ (F:Mx) (x:List Int) (j:Nat),Rect n F→x.length=n→(∀ r∈F,r.getD j 0=0)→(redX F x).getD j 0=x.getD j 0
 | [],x,j,_,_,_=>rfl
 | r::F,x,j,hF,hx,hz=>by
  have hr:r.length=n:=hF r (by simp)
  rw [redX,redX_keep F _ j (fun s hs=>hF s (by simp [hs])) (by simp [hx]) (fun s hs=>hz s (by simp [hs])),subK_getD _ _ _ _ (by omega),hz r (by simp)]
  simp
theorem redX_range {n:Nat} {ps:List Nat} {F:Mx} (h:IsH n ps F) {x:List Int} (hx:x.length=n) (i:Nat) (hi:i<F.length):0≤(redX F x).getD (ps.getD i 0) 0∧(redX F x).getD (ps.getD i 0) 0<eM F i (ps.getD i 0):=by
 have e:redX F x=redX (F.drop (i+1)) (redX (F.take (i+1)) x):=by
  have : ∀ (A B:Mx) (y:List Int),redX (A++B) y=redX B (redX A y):=by
   intro A
   induction A with
   | nil=>intro B y; rfl
   | cons a A ih=>intro B y; rw [List.cons_append,redX,redX,ih]
  rw [← this,List.take_append_drop]
 have hl1:(redX (F.take (i+1)) x).length=n:=by simp [hx]
 have hFi:(F.getD i []).length=n:=by rw [getD_get hi]; exact h.rect _ (List.getElem_mem hi)
 rw [e,redX_keep (n:=n) _ _ _ (fun s hs=>h.rect s (List.mem_of_mem_drop hs)) hl1 (fun r hr => ?_),redX_take hi,subK_getD _ _ _ _ (by rw [hFi,redX_length,hx]; exact Nat.le_refl _)]
 ·have hpi:ps.getD i 0=pv (F.getD i []):=by rw [isH_pv h,getD_map pv F i hi 0 []]
  rw [hpi]
  have hpos:=h.pos i hi
  rw [hpi] at hpos
  exact fdr_pos hpos
 ·obtain ⟨t,ht,rfl⟩:=List.getElem_of_mem hr
  rw [List.getElem_drop]
  have ht':i+1+t<F.length:=by simp at ht; omega
  have:=h.left (i+1+t) ht' (ps.getD i 0) (h.inc i (i+1+t) (by omega) ht')
  unfold eM at this
  rw [getD_get ht'] at this
  exact this
def zeroL (l:List Int):Prop := ∀ z∈l,z=0
theorem zero_vr {l:List Int}:zeroL l ↔ ∀ j,vr l j=0:=by
 constructor
 ·intro h j
  show l.getD j 0=0
  rw [List.getD_eq_getElem?_getD]
  rcases Nat.lt_or_ge j l.length with hj | hj
  ·rw [List.getElem?_eq_getElem hj]; exact h _ (List.getElem_mem hj)
  ·rw [List.getElem?_eq_none hj]; rfl
 ·intro h z hz
  obtain ⟨j,hj,rfl⟩:=List.getElem_of_mem hz
  have:=h j
  show l[j]=0
  rw [← getD_get hj 0]; exact this
theorem redX_zero {n:Nat} {ps:List Nat} {F:Mx} (h:IsH n ps F) {x:List Int} (hx:x.length=n):zeroL (redX F x)↔Span (latM F) (vr x):=by
 have hs:=redX_span F x h.rect hx
 rw [zero_vr]
 constructor
 ·intro hz
  refine span_of_eq hs fun j => ?_
  simp [Hnf.sub,hz j]
 ·intro hv
  have hr:Span (latM F) (vr (redX F x)):=by
   refine span_of_eq (hv.sub 1 hs) fun j => ?_
   simp only [Hnf.sub]; omega
  rcases Hnf.first (vr (redX F x)) with h0 | ⟨j,hj,hz⟩
  ·exact h0
  ·exfalso
   rw [← wps_rows h.len] at hr
   obtain ⟨g,hg,e,hd⟩:=h.ech.lead hr hj hz
   obtain ⟨i,hi,rfl⟩:=wps_mem h.len hg
   simp only at e hd
   subst e
   have hrg:=redX_range h hx i hi
   obtain ⟨c,hc⟩:=hd
   have hpos:=h.pos i hi
   have hc':(redX F x).getD (ps.getD i 0) 0=eM F i (ps.getD i 0)*c:=hc
   have hj':(redX F x).getD (ps.getD i 0) 0≠0:=hj
   have hlt:(eM F i (ps.getD i 0)*c).natAbs<(eM F i (ps.getD i 0)).natAbs:=by rw [← hc']; omega
   rw [Int.natAbs_mul] at hlt
   have hc0:c.natAbs=0:=by
    rcases Nat.eq_zero_or_pos c.natAbs with h | h
    ·exact h
    ·have:=Nat.mul_le_mul_left (eM F i (ps.getD i 0)).natAbs h; omega
   have hcz:c=0:=by omega
   rw [hcz,Int.mul_zero] at hc'
   exact hj' hc'
end Go.Proofs.YtjnpakablgommaaGreatDoor
