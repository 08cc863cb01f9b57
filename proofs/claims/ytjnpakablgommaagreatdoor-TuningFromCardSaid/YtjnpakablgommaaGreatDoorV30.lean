/- Part 30 of the proof of the claim: contracts of the functions that it reaches, and plain laws; no condition. -/
import Derived.Test.YtjnpakablgommaaGreatDoorV12
import Derived.Test.YtjnpakablgommaaGreatDoorV29
import Derived.Test.YtjnpakablgommaaGreatDoorV15
import Derived.Test.YtjnpakablgommaaGreatDoorV26
import Derived.Deep.CutRange
import Derived.Test.YtjnpakablgommaaGreatDoorV09
set_option maxRecDepth 100000
namespace Go.Proofs.YtjnpakablgommaaGreatDoor
open Go.RowKit Go.Sort
def fillQ (r:Rat) (n m:Nat):List Value:=szc (List.replicate n r)++List.replicate (2*(m-n)) (.string ⟨#[]⟩)
theorem szc_append (a b:List Rat):szc (a++b)=szc a++szc b:=by unfold szc; rw [List.map_append,fl_append]
theorem fillQ_length (r:Rat) {n m:Nat} (h:n≤m):(fillQ r n m).length=2*m:=by unfold fillQ; rw [List.length_append,szc_length,List.length_replicate,List.length_replicate]; omega
theorem fillQ_all (r:Rat) (m:Nat):fillQ r m m=szc (List.replicate m r):=by unfold fillQ; simp
theorem fillQ_get (r:Rat) {n m k j:Nat} (hk:k≤n) (h:j<2*k):(fillQ r n m)[j]? = (szc (List.replicate k r))[j]? := by
 unfold fillQ
 rw [List.getElem?_append_left (by rw [szc_length,List.length_replicate]; omega),show List.replicate n r=List.replicate k r++List.replicate (n-k) r by rw [List.replicate_append_replicate]; congr 1; omega,szc_append,List.getElem?_append_left (by rw [szc_length,List.length_replicate]; omega)]
theorem fillQ_splice (r:Rat) {n m k:Nat} (h:n+k≤m):(fillQ r n m).take (n*2)++szc (List.replicate k r)++(fillQ r n m).drop (n*2+(szc (List.replicate k r)).length)=fillQ r (n+k) m:=by
 unfold fillQ
 rw [List.take_left' (by rw [szc_length,List.length_replicate]; omega),szc_length,List.length_replicate, ← szc_append,List.replicate_append_replicate,List.drop_append,List.drop_of_length_le (by rw [szc_length,List.length_replicate]; omega),List.nil_append,szc_length,List.length_replicate,List.drop_replicate]
 congr 2
 omega
theorem szc_one {u:Value} {l:List Rat} (hu:u∈szc l):u.oneCell'=true:=by
 unfold szc fl at hu
 simp only [List.mem_flatMap,List.mem_map] at hu
 obtain ⟨p,⟨x,hx,rfl⟩,hp⟩:=hu
 simp only [List.mem_cons,List.not_mem_nil,or_false] at hp
 rcases hp with rfl | rfl <;> rfl
set_option maxHeartbeats 1000000 in
theorem repeatQ_any {m : Nat} (hm : m ≤ 1000000) {b o c : Nat} {r : Rat} {w : World} (hc0 : w.cell? ⟨b, o, none⟩ = some (I r.num)) (hc1 : w.cell? ⟨b, o + 1, none⟩ = some (I r.den)) :
    Calls Tryz.prog 143 #[.slice (some ⟨b,o,none⟩) 1 c,.int .i64 m] w fun e w' => ∃ g,e = .returned (slv g m m)∧w.heap.size≤g∧OwnV 81 w.heap.size w' g (2*m) (szc (List.replicate m r))∧Ext w w':=by
  obtain ⟨i0,hi,hz0,hz1,hz2⟩:=info_parts Tryz.infoRat
  have hmul:=Lib.hid (Tryz.bits_Mul 1 m (by omega) (by omega))
  rw [Nat.one_mul,Nat.div_eq_of_lt (by omega),Nat.mod_eq_of_lt (by omega)] at hmul
  go_enter Tryz.func143,Tryz.ntmps143
  go_wp2_with (first
    | (go_at_call 210; refine (hmul.out _).mono ?_; rintro e w1 ⟨rfl,hw⟩; have hw':=hw.symm; clear hw; subst hw')
    | (at_make; refine wpList_make_full _ rfl _ _ 60 rfl w.heap.size 81 i0 (.agg #[.string ⟨#[]⟩,.string ⟨#[]⟩]) 2 Tryz.underlying60 hi hz0 hz1 .i64 .i64 _ _ m rfl rfl (by omega) (by omega) (by rw [hz2]; omega) (by unfold maxLen; omega) (Nat.le_refl _) ?_; intro w1 hown1 hgrow1))
  have he1:=ext_grown hgrow1
  have hfr:=frv_made hown1 hm
  have hb1:w1.heap[w.heap.size]? = some (.cells (fillQ r 0 m).toArray 81 (0,0)):=by
    have hO:OwnV 81 w.heap.size w1 w.heap.size (2*m) (fillQ r 0 m):=by
      have h:=hfr
      unfold FrV at h
      rw [fl_rep,List.length_replicate,Nat.mul_comm m 2] at h
      have e:fillQ r 0 m=List.replicate (2*m) (.string ⟨#[]⟩):=by unfold fillQ szc fl; simp
      rw [e]; exact h
    obtain ⟨cur,_,h2,h3,_,h5,h6⟩:=hO.parts
    rw [fillQ_length r (Nat.zero_le m)] at h6
    have:cur=(fillQ r 0 m).toArray:=by
      apply Array.ext'
      rw [← h6,List.take_of_length_le (by rw [Array.length_toList,h5]; exact Nat.le_refl _)]
    rw [this] at h2; exact h2
  have hc0':=he1.cell hc0
  have hc1':=he1.cell hc1
  have hlb:=World.block_lt_of_cell? _ _ hc0
  have Hb1:=Lib.hid hb1
  have Hfl:=Lib.hid (fun n (h:n≤m)=>fillQ_length r h)
  clear hgrow1 hown1 hb1 hfr
  obtain ⟨g,hg⟩ : ∃ g,g=w.heap.size:=⟨_,rfl⟩
  have Hg:=Lib.hid hg
  rw [← hg] at Hb1 hlb ⊢
  clear hg
  have hinfo:(Tryz.prog.info? 81).map (·.size)=some 2:=by rw [hi]; simp [hz1]
  have Hinfo:=Lib.hid hinfo
  clear hinfo
  have hrun:=run_copy_rowK (P:=Tryz.prog) w1 60 60 3 81 g 0 m m 2 (min 1 m) ⟨b,o,none⟩ 1 c (fillQ r 0 m).toArray 81 (szc (List.replicate (min 1 m) r)) Tryz.underlying60 Hinfo.out Hb1.out rfl (by rw [szc_length,List.length_replicate]; omega)
    (fun j v hj=>by
      have hj0:j<2*min 1 m:=by have:=(List.getElem?_eq_some_iff.1 hj).1; rwa [szc_length,List.length_replicate] at this
      have hm1:min 1 m=1:=by omega
      rw [hm1] at hj
      rw [Lib.add_plain]
      rcases (show j=0∨j=1 by omega) with rfl | rfl
      · have : v = I r.num := by
          have h:(szc (List.replicate 1 r))[0]? = some (I r.num):=rfl
          rw [h] at hj; exact (Option.some.inj hj).symm
        rw [this]; exact hc0'
      · have : v = I r.den := by
          have h:(szc (List.replicate 1 r))[1]? = some (I r.den):=rfl
          rw [h] at hj; exact (Option.some.inj hj).symm
        rw [this]; exact hc1') (by simp only [List.size_toArray,Hfl.out 0 (Nat.zero_le m),szc_length,List.length_replicate]; omega) (fun v hv=>szc_one hv)
  have hsp:=fillQ_splice r (n:=0) (m:=m) (k:=min 1 m) (by omega)
  rw [Nat.zero_mul] at hsp
  rw [show ((fillQ r 0 m).toArray.toList.take 0++szc (List.replicate (min 1 m) r)++(fillQ r 0 m).toArray.toList.drop (0+(szc (List.replicate (min 1 m) r)).length))=fillQ r (0+min 1 m) m from hsp,Nat.zero_add] at hrun
  have Hrun:=Lib.hid hrun
  clear hrun hsp
  go_wp2_with fail
  rw [Hrun.out]
  have he2:Ext w (w1.setRow g (fillQ r (min 1 m) m).toArray):=below_setRow he1 (by rw [Hg.out]; exact Nat.le_refl _) _
  have hb2:(w1.setRow g (fillQ r (min 1 m) m).toArray).heap[g]? = some (.cells (fillQ r (min 1 m) m).toArray 81 (0,0)):=setRow_heap w1 g _ _ 81 _ Hb1.out
  have Hb2:=Lib.hid hb2
  clear Hrun Hb1 hb2
  generalize w1.setRow g (fillQ r (min 1 m) m).toArray=w2 at *
  obtain ⟨q,hq⟩ : ∃ q,q=min 1 m:=⟨_,rfl⟩
  have Hq:=Lib.hid hq
  rw [← hq] at Hb2 ⊢
  have hqm:q≤m:=by omega
  have hq1:0<m→0<q:=fun h=>by omega
  have Hq1:=Lib.hid hq1
  clear hq hq1
  go_wp2_with fail
  go_loopw [8] (fun nn wr => ∃ n:Nat,n≤m∧nn = .int .i64 n∧Hid (0<m→0<n)∧Hid (wr.heap[g]? = some (.cells (fillQ r n m).toArray 81 (0,0)))∧Ext w wr) (fun nn _=>m-(intOf nn).toNat)
  case atStart=>exact ⟨q,hqm,by go_num,Hq1,Hb2,he2⟩
  case round =>
    obtain ⟨n,hn,rfl,Hn,Hb,hE⟩:=hrel
    generalize wr=X at *
    by_cases hlt:n<m
    · have hni:(n:Int)<(m:Int):=by omega
      have hn0:0<n:=Hn.out (by omega)
      obtain ⟨k,hk⟩ : ∃ k,k=min n (m-n):=⟨_,rfl⟩
      have hk0:0<k:=by omega
      have hkm:n+k≤m:=by omega
      have Hk:=Lib.hid hk
      have Hsp:=Lib.hid (fillQ_splice r hkm)
      clear hk
      have hmn : ¬ m=n:=by omega
      have Hb5:=Lib.hid (show X.drew.heap[g]? = some (.cells (fillQ r n m).toArray 81 (0,0)) from Hb.out)
      have hE6:=hE.drew
      have hrun:=run_copy_rowK (P:=Tryz.prog) X.drew 60 60 3 81 g (n*2) (m-n) (m-n) 2 k ⟨g,0,none⟩ n m (fillQ r n m).toArray 81 (szc (List.replicate k r)) Tryz.underlying60 Hinfo.out Hb5.out Hk.out (by rw [szc_length,List.length_replicate]; omega)
        (fun j v hj=>by
          have hj0:j<2*k:=by have:=(List.getElem?_eq_some_iff.1 hj).1; rwa [szc_length,List.length_replicate] at this
          have hkn:k≤n:=by have:=Hk.out; omega
          rw [← fillQ_get r (m:=m) hkn hj0] at hj
          simp only [Addr.add_lit,Nat.zero_add,World.cell?,Hb5.out]
          simpa using hj) (by simp only [List.size_toArray,Hfl.out n hn,szc_length,List.length_replicate]; omega) (fun v hv=>szc_one hv)
      have hsp:=Hsp.out
      rw [show ((fillQ r n m).toArray.toList.take (n*2)++szc (List.replicate k r)++(fillQ r n m).toArray.toList.drop (n*2+(szc (List.replicate k r)).length))=fillQ r (n+k) m from hsp] at hrun
      have hE7:Ext w (X.drew.setRow g (fillQ r (n+k) m).toArray):=below_setRow hE6 (by rw [Hg.out]; exact Nat.le_refl _) _
      have Hb7:=Lib.hid (setRow_heap X.drew g _ (fillQ r (n+k) m).toArray 81 _ Hb5.out)
      obtain ⟨Y,hY⟩ : ∃ Y,Y=X.drew.setRow g (fillQ r (n+k) m).toArray:=⟨_,rfl⟩
      rw [← hY] at hrun hE7 Hb7
      clear hsp hY hE6 Hb5
      go_wp2_with fail
      go_region
      clear hrun
      go_wp2_with fail
      go_roundw
      case rel=>exact ⟨n+k,hkm,by go_num,Lib.hid (fun _=>by omega),Hb7,hE7⟩
      case measure=>simp [intOf] <;> omega
    · have hnm:n=m:=by omega
      subst hnm
      go_wp2_with fail
      go_ret
      refine ⟨g,rfl,by rw [Hg.out]; exact Nat.le_refl _,?_,hE⟩
      refine OwnV.of (by rw [Hg.out]; exact Nat.le_refl _) Hb.out (by rw [szc_length,List.length_replicate]; exact Nat.le_refl _) (by unfold maxLen; omega) (by simp [Hfl.out n hn]) ?_
      rw [fillQ_all]; exact List.take_of_length_le (by simp)
def SzO (B:Nat) (w:World) (g:Nat) (l:List Rat):Prop:=OwnV 81 B w g (2*l.length) (szc l)
theorem SzO.ext {B:Nat} {w w':World} {g:Nat} {l:List Rat} (h:SzO B w g l) (he:Ext w w'):SzO B w' g l:=OwnV.ext h he
theorem SzO.mono {B B':Nat} {w:World} {g:Nat} {l:List Rat} (h:SzO B w g l) (hB:B'≤B):SzO B' w g l:=OwnV.mono h hB
theorem SzO.val {B:Nat} {w:World} {g:Nat} {l:List Rat} (h:SzO B w g l):SzV B w (slv g l.length l.length) l:=by
 obtain ⟨cur,h1,h2,h3,h4,h5,h6⟩:=OwnV.parts h
 rw [szc_length] at h3 h6
 refine ⟨by rw [szc_length]; omega,.inr ⟨g,l.length,cur,rfl,h1,h2,Nat.le_refl _,by omega,by omega,?_⟩⟩
 rw [Nat.mul_comm]; exact h6
theorem SzV.slice {B:Nat} {w:World} {v:Value} {l:List Rat} (h:SzV B w v l) : ∃ a n c,v = .slice a n c:=by
 rcases h.2 with ⟨rfl,_⟩ | ⟨g,cap,cur,rfl,_⟩
 ·exact ⟨_,_,_,rfl⟩
 ·exact ⟨_,_,_,rfl⟩
theorem SzV.kept {B g:Nat} {w w':World} {v:Value} {l:List Rat} (h:SzV B w v l) (hG:w.grownBy w' (some g)) (hg:g<B):SzV B w' v l:=by
 refine World.ownsRow.kept h hG ?_
 have hl:=World.ownsRow.lt h
 rcases hv:v.ownBlock with _ | q
 ·exact .inl rfl
 ·refine .inr ?_
  have:=hl q hv
  intro h2
  injection h2 with h2
  omega
theorem szc_set (l:List Rat) (i:Nat) (r:Rat):((szc l).set (2*i) (I r.num)).set (2*i+1) (I r.den)=szc (l.set i r):=by
 unfold szc
 have h:=fl_set (l.map fun r=>qv (qR r)) i (qv (qR r))
 rw [List.map_set]; exact h
theorem SzO.cells {B:Nat} {w:World} {g:Nat} {l:List Rat} (h:SzO B w g l) {i:Nat} (hi:i<l.length):w.cell? ⟨g,i*2,none⟩=some (I l[i].num)∧w.cell? ⟨g,i*2+1,none⟩=some (I l[i].den):=by
 obtain ⟨k1,k2⟩:=szc_get hi
 rw [Nat.mul_comm i 2]
 obtain ⟨a1,e1⟩:=List.getElem?_eq_some_iff.1 k1
 obtain ⟨a2,e2⟩:=List.getElem?_eq_some_iff.1 k2
 exact ⟨by rw [← e1]; exact OwnV.cell h a1,by rw [← e2]; exact OwnV.cell h a2⟩
theorem SzO.step {B g i:Nat} {w W:World} {l:List Rat} (hE:Ext w W) (hg:w.heap.size≤g) (h:SzO B W g l) (hi:i<l.length) (r:Rat) :
  (∃ a b,W.cell? ⟨g,i*2,none⟩=some (I a)∧W.cell? ⟨g,i*2+1,none⟩=some (I b))∧W.frozen? ⟨g,i*2,none⟩=false∧W.frozen? ⟨g,i*2+1,none⟩=false ∧
   Hid (SzO B ((W.setCell ⟨g,i*2,none⟩ (I r.num)).setCell ⟨g,i*2+1,none⟩ (I r.den)) g (l.set i r)) ∧
   Hid (Ext w ((W.setCell ⟨g,i*2,none⟩ (I r.num)).setCell ⟨g,i*2+1,none⟩ (I r.den))):=by
 obtain ⟨c0,c1⟩:=h.cells hi
 obtain ⟨h1,g1⟩:=OwnV.set h (2*i) (I r.num)
 obtain ⟨h2,g2⟩:=h1.set (2*i+1) (I r.den)
 rw [szc_set] at h2
 refine ⟨⟨_,_,c0,c1⟩,OwnV.frozen h _,OwnV.frozen h _,Lib.hid ?_,Lib.hid ?_⟩
 ·unfold SzO
  rw [List.length_set,Nat.mul_comm i 2]; exact h2
 ·rw [Nat.mul_comm i 2]; exact ext_trans_grown hE (grown_trans g1 g2) hg
theorem SzO.stepB {B K g i:Nat} {w W:World} {l:List Rat} (hE:Below K w W) (hK:K≤w.heap.size) (hg:K≤g) (h:SzO B W g l) (hi:i<l.length) (r:Rat) :
  (∃ a b,W.cell? ⟨g,i*2,none⟩=some (I a)∧W.cell? ⟨g,i*2+1,none⟩=some (I b))∧W.frozen? ⟨g,i*2,none⟩=false∧W.frozen? ⟨g,i*2+1,none⟩=false ∧
   Hid (SzO B ((W.setCell ⟨g,i*2,none⟩ (I r.num)).setCell ⟨g,i*2+1,none⟩ (I r.den)) g (l.set i r)) ∧
   Hid (Below K w ((W.setCell ⟨g,i*2,none⟩ (I r.num)).setCell ⟨g,i*2+1,none⟩ (I r.den)))∧Hid (W.grownBy ((W.setCell ⟨g,i*2,none⟩ (I r.num)).setCell ⟨g,i*2+1,none⟩ (I r.den)) (some g)):=by
 obtain ⟨c0,c1⟩:=h.cells hi
 obtain ⟨h1,g1⟩:=OwnV.set h (2*i) (I r.num)
 obtain ⟨h2,g2⟩:=h1.set (2*i+1) (I r.den)
 rw [szc_set] at h2
 refine ⟨⟨_,_,c0,c1⟩,OwnV.frozen h _,OwnV.frozen h _,Lib.hid ?_,Lib.hid ?_,Lib.hid ?_⟩
 ·unfold SzO
  rw [List.length_set,Nat.mul_comm i 2]; exact h2
 ·rw [Nat.mul_comm i 2]; exact Below.grown hE (grown_trans g1 g2) (by have:=hE.size; omega) (fun q hq=>by injection hq with hq; omega)
 ·rw [Nat.mul_comm i 2]; exact grown_trans g1 g2
theorem I_zeroR:I (0:Rat).num = .string ⟨#[48]⟩∧I ((0:Rat).den:Int) = .string ⟨#[49]⟩:=by
 unfold I S
 refine ⟨?_,?_⟩
 ·rw [show (0:Rat).num=((0:Nat):Int) from rfl,itoa_nat,dec_zero]
 ·rw [show (((0:Rat).den:Nat):Int)=1 from rfl,itoa_one]
set_option maxHeartbeats 4000000 in
theorem combine_any {w:World} {pa:Option Addr} {np cp:Nat} {v fv:Value} {L:List (List Rat)} {fs:List Rat} (hG:GnR w v L) (hf:SzR w fv fs) (hc : ∀ l∈L,l.length=np) (hfl:L.length≤fs.length) (hE : ∀ l∈L,∀ r∈l,NdQ 1000 r) (hF : ∀ r∈fs,NdQ 1000 r) (hn:np≤1000) (hk:L.length≤1000) (hL:Laid w) :
  Calls Tryz.prog 86 #[.slice pa np cp,v,fv] w fun e w'=>(∃ g,e = .returned (slv g np np)∧w.heap.size≤g∧SzO w.heap.size w' g (cmbQ L fs np))∧Ext w w':=by
 obtain ⟨sa,gb,go,cap,vs,rfl,hcap,hvl,hS,hr⟩:=hG
 obtain ⟨fa,fb,fo,fcap,rfl,hfc,hfa,hfr⟩:=hf
 have HS:=Lib.hid hS
 have Hr:=Lib.hid hr
 have Hv:=Lib.hid hvl
 have Hc:=Lib.hid hc
 have Hfa:=Lib.hid hfa
 have Hfr:=Lib.hid hfr
 have HL:=Lib.hid hL
 have Hnd:=Lib.hid (fun c k=>cmbF_nd (c:=c) (k:=k) hE hF (by omega) (by omega))
 have Hsum:=Lib.hid (fun c k (h:k≤1000)=>(sumR_nd k (fun t _=>cmbF_nd (c:=c) (k:=t) hE hF (by omega) (by omega))).smQ (by have:k*(1000+1000+1)≤1000*(1000+1000+1):=Nat.mul_le_mul_right _ h; omega))
 have Hss:=Lib.hid (fun k i (h:k<L.length) (h2:i<L[k].length) s (hs:s=L[k][i])=>show SmQ s by rw [hs]; exact (hE _ (List.getElem_mem h) _ (List.getElem_mem h2)).smQ (by omega))
 have Hpp:=Lib.hid (fun k (h:k<fs.length) s (hs:fs[k]=s)=>show SmQ s by rw [← hs]; exact (hF _ (List.getElem_mem h)).smQ (by omega))
 have eX:=(Ext.refl w).alloc (.cells #[.string ⟨#[48]⟩,.string ⟨#[49]⟩] 81)
 have hO:=two_alloc w 81 (.string ⟨#[48]⟩) (.string ⟨#[49]⟩)
 have x0:=hO.cell (j:=0) (by simp)
 have x1:=hO.cell (j:=1) (by simp)
 simp only [List.getElem_cons_zero,List.getElem_cons_succ] at x0 x1
 have hrp:=Lib.hid (repeatQ_any (m:=np) (by omega) (c:=1) (o:=0) (r:=0) (w:=w.alloc (.cells #[.string ⟨#[48]⟩,.string ⟨#[49]⟩] 81)) (b:=w.heap.size) (by rw [x0,I_zeroR.1]) (by rw [x1,I_zeroR.2]))
 have Hws:=Lib.hid (show (w.alloc (.cells #[.string ⟨#[48]⟩,.string ⟨#[49]⟩] 81)).heap.size=w.heap.size+1 by simp)
 obtain ⟨m,hm⟩ : ∃ m,m=L.length:=⟨_,rfl⟩
 obtain ⟨q,hq⟩ : ∃ q,q=fs.length:=⟨_,rfl⟩
 rw [← hm] at hcap hfl hk ⊢
 rw [← hq] at hfc hfl ⊢
 have Hm:=Lib.hid hm
 have Hq:=Lib.hid hq
 clear hS hr hvl hc hfa hfr hL hE hF hO x0 x1 hm hq
 go_enter Tryz.func86,Tryz.ntmps86
 go_wp2_with fail
 refine hrp.out.mono ?_
 rintro e w0 ⟨g,rfl,hg,hO,hE0⟩
 have hgw:w.heap.size≤g:=by have:=Hws.out; omega
 have HO:=Lib.hid (show SzO w.heap.size w0 g (cmbTo L fs np 0 0) by
  rw [cmbTo_zero]; unfold SzO; rw [List.length_replicate]; exact OwnV.mono hO (by have:=Hws.out; omega))
 have e0:=eX.trans hE0
 have Hgw:=Lib.hid hgw
 clear hrp hO hE0 eX hg hgw
 go_wp2_with fail
 go_loopw [18] (fun kv wr => ∃ k:Nat,k≤m∧kv = .int .i64 k∧Hid (SzO w.heap.size wr g (cmbTo L fs np k 0))∧Ext w wr) (fun kv _=>m-(intOf kv).toNat)
 case atStart=>exact ⟨0,by omega,by go_num,HO,e0⟩
 case round =>
  obtain ⟨k,hk',rfl,HO,hE⟩:=hrel
  generalize wr=Y at *
  by_cases hlt:k<m
  ·have hki:(k:Int)<(m:Int):=by omega
   have hkL:k<L.length:=by rw [← Hm.out]; exact hlt
   have hkv:k<vs.length:=by rw [Hv.out]; exact hkL
   obtain rfl:=HS.out.addr (by omega)
   have k0:=HS.out.cell k _ (List.getElem?_eq_getElem hkv)
   have hsz:=Hr.out k hkL hkv
   have hln:=Hc.out _ (List.getElem_mem hkL)
   have hLk:L.getD k []=L[k]:=by rw [List.getD_eq_getElem?_getD,List.getElem?_eq_getElem hkL]; rfl
   obtain ⟨xa,xb,xo,xc,ex,q1,q2,q3⟩:=hsz
   rw [ex] at k0
   rw [hln] at k0 q1 q2
   have hkf:k<q:=by omega
   have hfk:k<fs.length:=by rw [← Hq.out]; exact hkf
   obtain rfl:=Hfa.out (by omega)
   have f01:=Hfr.out k hfk
   have hfD:fs.getD k 0=fs[k]:=by rw [List.getD_eq_getElem?_getD,List.getElem?_eq_getElem hfk]; rfl
   obtain ⟨p,hp⟩ : ∃ p,p=fs[k]:=⟨_,rfl⟩
   rw [← hp] at f01 hfD
   obtain ⟨f0,f1⟩:=f01
   have y0:=hE.cell k0
   have HfD:=Lib.hid hfD
   have HLk:=Lib.hid hLk
   have Hq2:=Lib.hid q2
   have Hln:=Lib.hid hln
   have Hq3:=Lib.hid (fun i (h:i<L[k].length)=>q3 i h)
   have hkfI:(k:Int)<(q:Int):=by omega
   clear ex k0 hln q2 q3 hfD hLk hkv hp
   go_wp2_with fail
   go_loopw [25] (fun iv wr => ∃ i:Nat,i≤np∧iv = .int .i64 i∧Hid (SzO w.heap.size wr g (cmbTo L fs np k i))∧Ext w wr) (fun iv _=>np-(intOf iv).toNat)
   case atStart=>exact ⟨0,by omega,by go_num,HO,hE⟩
   case round =>
    obtain ⟨i,hi,rfl,HO,eX⟩:=hrel
    generalize wr=X at *
    by_cases hli:i<np
    ·have hii:(i:Int)<(np:Int):=by omega
     obtain rfl:=Hq2.out (by omega)
     have s01:=Hq3.out i (by rw [Hln.out]; exact hli)
     obtain ⟨s,hs⟩ : ∃ s,s=L[k][i]'(by rw [Hln.out]; exact hli):=⟨_,rfl⟩
     rw [← hs] at s01
     have hFk:cmbF L fs i k=s*p:=by
      unfold cmbF
      rw [HLk.out,HfD.out,List.getD_eq_getElem?_getD,List.getElem?_eq_getElem (by rw [Hln.out]; exact hli),hs]; rfl
     have hsN:=Hnd.out i k
     rw [hFk] at hsN
     have hsm:SmQ s:=Hss.out k i hkL (by rw [Hln.out]; exact hli) s hs
     have hpm:SmQ p:=Hpp.out k hfk p (by rw [← HfD.out,List.getD_eq_getElem?_getD,List.getElem?_eq_getElem hfk]; rfl)
     obtain ⟨t,ht⟩ : ∃ t,t=sumR (cmbF L fs i) k:=⟨_,rfl⟩
     have htm:=Hsum.out i k (by omega)
     rw [← ht] at htm
     have hil:i<(cmbTo L fs np k i).length:=by rw [cmbTo_length]; exact hli
     have t01:=HO.out.cells hil
     have hti:(cmbTo L fs np k i)[i]=t:=by
      have:=cmbTo_at (l:=L) (fs:=fs) (k:=k) hli
      rw [List.getD_eq_getElem?_getD,List.getElem?_eq_getElem hil,Option.getD_some] at this
      rw [this,ht]
     rw [hti] at t01
     have hst:(cmbTo L fs np k i).set i (t+s*p)=cmbTo L fs np k (i+1):=by
      rw [ht, ← hFk]; exact cmbTo_step hli
     have Hst:=Lib.hid hst
     have Hil:=Lib.hid hil
     have hmu:=Lib.hid (fun W (hW:Ext X W)=>ratMul_any (a:=s) (b:=p) hsm hpm (HL.out.ext (eX.trans hW)))
     have had:=Lib.hid (fun W (hW:Ext X W)=>ratAdd_any (a:=t) (b:=s*p) htm (hsN.smQ (by omega)) (HL.out.ext (eX.trans hW)))
     obtain ⟨t0,t1⟩:=t01
     obtain ⟨s0,s1⟩:=s01
     have s0:=eX.cell s0
     have s1:=eX.cell s1
     have p0:=eX.cell f0
     have p1:=eX.cell f1
     clear hst hil hti htm hsN hsm hpm hFk hs ht hlt hli
     go_wp2_with fail
     have d0:Ext X X.drew:=(Ext.refl X).drew
     refine wp_region_held_tail (S:=fun W=>Ext X W) 16 (by kernel_rfl) (by simp) ?_
     intro inv
     generalize X.drew=X1 at *
     refine wpAnyLH_take (i:=0) (v:=slv g np np) rfl (by kernel_rfl) (fun _ _ _ h=>h) (.inl ⟨by rfl,fun W hW=>by go_simp⟩) d0 inv ?_
     intro inv
     go_simp
     refine wpAnyLH_take (i:=1) (v := .int .i64 i) rfl (by kernel_rfl) (fun _ _ _ h=>h) (.inl ⟨by rfl,fun W hW=>by go_simp⟩) d0 inv ?_
     intro inv
     go_simp
     refine wpAnyLH_take (i:=2) (v:=slv g np np) rfl (by kernel_rfl) (fun _ _ _ h=>h) (.inl ⟨by rfl,fun W hW=>by go_simp⟩) d0 inv ?_
     intro inv
     go_simp
     refine wpAnyLH_take (i:=3) (v := .int .i64 i) rfl (by kernel_rfl) (fun _ _ _ h=>h) (.inl ⟨by rfl,fun W hW=>by go_simp⟩) d0 inv ?_
     intro inv
     go_simp
     refine wpAnyLH_take (i:=4) (v := .pointer (some ⟨g,i*2,none⟩)) rfl (by kernel_rfl) (fun _ _ _ h=>h) (.inl ⟨by rfl,fun W hW=>by go_simp⟩) d0 inv ?_
     intro inv
     go_simp
     refine wpAnyLH_take (i:=5) (v:=RV t) rfl (by kernel_rfl) (fun _ _ _ h=>h) (.inl ⟨by rfl,fun W hW=>by have z0:=hW.cell t0; have z1:=hW.cell t1; go_simp⟩) d0 inv ?_
     intro inv
     go_simp
     refine wpAnyLH_take (i:=6) (v := .slice (some ⟨xb,xo,none⟩) np xc) rfl (by kernel_rfl) (fun _ _ _ h=>h) (.inl ⟨by rfl,fun W hW=>by go_simp⟩) d0 inv ?_
     intro inv
     go_simp
     refine wpAnyLH_take (i:=7) (v := .int .i64 i) rfl (by kernel_rfl) (fun _ _ _ h=>h) (.inl ⟨by rfl,fun W hW=>by go_simp⟩) d0 inv ?_
     intro inv
     go_simp
     refine wpAnyLH_take (i:=8) (v := .pointer (some ⟨xb,xo+i*2,none⟩)) rfl (by kernel_rfl) (fun _ _ _ h=>h) (.inl ⟨by rfl,fun W hW=>by go_simp⟩) d0 inv ?_
     intro inv
     go_simp
     refine wpAnyLH_take (i:=9) (v:=RV s) rfl (by kernel_rfl) (fun _ _ _ h=>h) (.inl ⟨by rfl,fun W hW=>by have z0:=hW.cell s0; have z1:=hW.cell s1; go_simp⟩) d0 inv ?_
     intro inv
     go_simp
     refine wpAnyLH_take (i:=10) (v := .slice (some ⟨fb,fo,none⟩) q fcap) rfl (by kernel_rfl) (fun _ _ _ h=>h) (.inl ⟨by rfl,fun W hW=>by go_simp⟩) d0 inv ?_
     intro inv
     go_simp
     refine wpAnyLH_take (i:=11) (v := .int .i64 k) rfl (by kernel_rfl) (fun _ _ _ h=>h) (.inl ⟨by rfl,fun W hW=>by go_simp⟩) d0 inv ?_
     intro inv
     go_simp
     refine wpAnyLH_take (i:=12) (v := .pointer (some ⟨fb,fo+k*2,none⟩)) rfl (by kernel_rfl) (fun _ _ _ h=>h) (.inl ⟨by rfl,fun W hW=>by go_simp⟩) d0 inv ?_
     intro inv
     go_simp
     refine wpAnyLH_take (i:=13) (v:=RV p) rfl (by kernel_rfl) (fun _ _ _ h=>h) (.inl ⟨by rfl,fun W hW=>by have z0:=hW.cell p0; have z1:=hW.cell p1; go_simp⟩) d0 inv ?_
     intro inv
     go_simp
     refine wpAnyLH_oneI (i:=14) rfl (by kernel_rfl) inv (fun inv K0 hK0 => ?_)
     go_simp
     refine (hmu.out _ d0).mono ?_
     rintro e X2 ⟨rfl,hG1⟩
     have d1:=d0.trans hG1
     refine hK0 _ _ d1 ?_
     clear hK0
     refine wpAnyLH_oneI (i:=15) rfl (by kernel_rfl) inv (fun inv K0 hK0 => ?_)
     go_simp
     refine (had.out _ d1).mono ?_
     rintro e X3 ⟨rfl,hG2⟩
     have d2:=d1.trans hG2
     refine hK0 _ _ d2 ?_
     clear hK0
     refine wpAnyLH_end (by kernel_rfl) ?_
     have HO3:=HO.out.ext d2
     obtain ⟨⟨ca,cb,z0,z1⟩,f0',f1',HO9,hE9⟩:=SzO.step ((eX.trans d2)) Hgw.out HO3 Hil.out (t+s*p)
     rw [Hst.out] at HO9
     clear hmu had inv d0 d1 hG1 hG2 t0 t1 s0 s1 p0 p1 HO HO3
     go_wp2_with fail
     go_roundw
     case rel=>exact ⟨i+1,by omega,by go_num,HO9,hE9.out⟩
     case measure=>simp [intOf] <;> omega
    ·obtain rfl:i=np:=by omega
     have hii : ¬ (i:Int)<(i:Int):=by omega
     have HOn:=Lib.hid (show SzO w.heap.size X g (cmbTo L fs i (k+1) 0) by rw [← cmbTo_row]; exact HO.out)
     clear HO
     go_wp2_with fail
     go_roundw
     case rel=>exact ⟨k+1,by omega,by go_num,HOn,eX⟩
     case measure=>simp [intOf] <;> omega
  ·obtain rfl:k=m:=by omega
   have hki : ¬ (k:Int)<(k:Int):=by omega
   have HOn:=Lib.hid (show SzO w.heap.size Y g (cmbQ L fs np) by rw [← cmbTo_all, ← Hm.out]; exact HO.out)
   clear HO
   go_wp2_with fail
   go_ret
   exact ⟨⟨g,rfl,Hgw.out,HOn.out⟩,hE⟩
def nbL (x:List Int):List Rat:=x.map fun (z:Int)=>(z:Rat)
@[simp] theorem nbL_length (x:List Int):(nbL x).length=x.length:=by simp [nbL]
theorem nbL_snoc {x:List Int} {i:Nat} (h:i<x.length):nbL (x.take i)++[(x[i]:Rat)]=nbL (x.take (i+1)):=by
 unfold nbL
 rw [List.take_succ_eq_append_getElem h,List.map_append]; rfl
set_option maxHeartbeats 2000000 in
theorem numbers_any {w:World} {v:Value} {x:List Int} (hx:RowR w v x) (hl:x.length≤1000000) (h64 : ∀ z∈x,I64 z) (hL:Laid w) :
  Calls Tryz.prog 87 #[v] w fun e w'=>(∃ u,e = .returned u∧SzV w.heap.size w' u (nbL x))∧Ext w w':=by
 obtain ⟨sa,gb,go,cap,rfl,hc,hS⟩:=hx
 have HS:=Lib.hid hS
 have H64:=Lib.hid h64
 have HL:=Lib.hid hL
 obtain ⟨n,hn⟩ : ∃ n,n=x.length:=⟨_,rfl⟩
 rw [← hn] at hc hl ⊢
 have Hn:=Lib.hid hn
 clear hS h64 hL hn
 go_enter Tryz.func87,Tryz.ntmps87
 go_wp2_with fail
 go_loopw [3,10] (fun u iv wr => ∃ i:Nat,i≤n∧iv = .int .i64 i∧Hid (SzV w.heap.size wr u (nbL (x.take i)))∧Ext w wr) (fun _ iv _=>n-(intOf iv).toNat)
 case atStart=>exact ⟨0,by omega,by go_num,Lib.hid (SzV.nil _ _),Ext.refl _⟩
 case round =>
  obtain ⟨i,hi,rfl,HV,hE⟩:=hrel
  generalize wr=Y at *
  have hYs:=hE.size
  by_cases hlt:i<n
  ·have hii:(i:Int)<(n:Int):=by omega
   have hix:i<x.length:=by rw [← Hn.out]; exact hlt
   obtain rfl:=HS.out.addr (by simp; omega)
   have k0:=HS.out.cell i (.int .i64 x[i]) (by simp [is,List.getElem?_eq_getElem hix])
   have y0:=hE.cell k0
   have h6:=H64.out _ (List.getElem_mem hix)
   have hof:=Lib.hid (fun W (hW:Ext Y W)=>ratOf_any (n:=x[i]) (d:=1) h6 (by omega) (by omega) (HL.out.ext (hE.trans hW)))
   rw [show ((x[i]:Rat)/((1:Int):Rat))=(x[i]:Rat) by grind] at hof
   have Hst:=Lib.hid (nbL_snoc hix)
   have hlen:(nbL (x.take i)).length=i:=by rw [nbL_length,List.length_take]; omega
   have Hlen:=Lib.hid hlen
   have Hmin:=Lib.hid (show min i x.length=i by omega)
   clear k0 hlen h6
   obtain ⟨r,hr⟩ : ∃ r:Rat,r=(x[i]:Rat):=⟨_,rfl⟩
   rw [← hr] at hof Hst
   generalize x[i]=z at *
   clear hr hix
   go_wp2_with fail
   refine (hof.out _ (Ext.refl _)).mono ?_
   rintro e Z ⟨rfl,hE2⟩
   have eA:=(hE2.alloc (.cells #[I r.num,I r.den] 81)).alloc (.cells #[I r.num,I r.den] 81)
   have hO:=two_alloc (Z.alloc (.cells #[I r.num,I r.den] 81)) 81 (I r.num) (I r.den)
   rw [show (Z.alloc (.cells #[I r.num,I r.den] 81)).heap.size=Z.heap.size+1 by simp] at hO
   have z0:=hO.cell (j:=0) (by simp)
   have z1:=hO.cell (j:=1) (by simp)
   simp only [List.getElem_cons_zero,List.getElem_cons_succ] at z0 z1
   have HVZ:=Lib.hid (HV.out.ext eA)
   have hZs:=hE2.size
   clear hO hof y0
   go_wp2_with (at_builtin; refine app_rat rfl _ _ 59 Tryz.underlying59 rfl (B:=w.heap.size) rfl HVZ.out (b:=Z.heap.size+1) (r:=r) rfl z0 z1 (by rw [Hlen.out]; omega) (by simp; omega) ?_; intro g9 cap9 w9 hO9 hB9 _; rw [Hst.out,Hlen.out] at hO9; have HO9:=Lib.hid hO9; have e9:=Below.trans (hE.trans eA) hB9; clear hO9 hB9)
   go_wp2_with fail
   go_roundw
   case rel=>exact ⟨i+1,by omega,by go_num,by rw [Hmin.out]; exact HO9,e9⟩
   case measure=>simp [intOf] <;> omega
  ·obtain rfl:i=n:=by omega
   have Hres:=Lib.hid (show SzV w.heap.size Y _ (nbL x) by have:=HV.out; rw [Hn.out,List.take_length] at this; exact this)
   have hii : ¬ (i:Int)<(i:Int):=by omega
   go_wp2_with fail
   go_ret
   exact ⟨⟨_,rfl,Hres.out⟩,hE⟩
theorem tmp_b {f:Nat→Int} (hf : ∀ i,(f i).natAbs≤1000000000000000000) : ∀ k,(sumZ f k).natAbs≤k*1000000000000000000
 | 0=>by simp [sumZ]
 | k+1=>by
  have h1:=tmp_b hf k
  have h2:=hf k
  rw [sumZ]; omega
theorem nd_b66 {z:Int} (h:z.natAbs≤64000000000000000000):nd z≤67:=nd_lt2 (E:=66) (by
 have e:(2:Nat)^66=73786976294838206464:=by decide
 rw [e]; omega)
theorem prod_b {a b:Int} (ha : -1000000000≤a∧a≤1000000000) (hb : -1000000000≤b∧b≤1000000000):(a*b).natAbs≤1000000000000000000:=by
 rw [Int.natAbs_mul]
 have:=Nat.mul_le_mul (show a.natAbs≤1000000000 by omega) (show b.natAbs≤1000000000 by omega)
 omega
theorem getD_bd9 {l:List Int} (h : ∀ z∈l,-1000000000≤z∧z≤1000000000) (i:Nat) : -1000000000≤l.getD i 0∧l.getD i 0≤1000000000:=by
 rw [List.getD_eq_getElem?_getD]
 rcases Nat.lt_or_ge i l.length with hi | hi
 ·rw [List.getElem?_eq_getElem hi]; exact h _ (List.getElem_mem hi)
 ·rw [List.getElem?_eq_none hi]; simp
def tmpT (x v:List Int) (j:Nat):Int:=sumZ (fun i=>x.getD i 0*v.getD i 0) j
theorem tmpT_succ (x v:List Int) (j:Nat):tmpT x v (j+1)=tmpT x v j+x.getD j 0*v.getD j 0:=rfl
theorem tmpT_b {x v:List Int} (hx : ∀ z∈x,-1000000000≤z∧z≤1000000000) (hv : ∀ z∈v,-1000000000≤z∧z≤1000000000) {j:Nat} (hj:j≤64):nd (tmpT x v j)≤67:=by
 have:=tmp_b (f:=fun i=>x.getD i 0*v.getD i 0) (fun i=>prod_b (getD_bd9 hx i) (getD_bd9 hv i)) j
 refine nd_b66 ?_
 unfold tmpT
 omega
set_option maxHeartbeats 4000000 in
theorem temper_any {w:World} {P:List Int} {C M:Mx} {sp:Option Addr} {cp:Nat} {sc:Option Addr} {lc cc:Nat} {sm:Option Addr} {lm cm:Nat} {sx:Option Addr} {n cx:Nat} {x:List Int} (h:TmV w P C M M sp cp sc lc cc sm lm cm) (hx:RowR w (.slice sx n cx) x) (hc:chkRow x=0) (hl:x.length=P.length) (hL:Laid w) :
  Calls Tryz.prog 77 #[tmS P sp cp sc lc cc sm lm cm,.slice sx n cx] w fun e w' => ∃ v',e = .returned v'∧IntsV w.heap.size w' v' (tmpL M x)∧Ext w w':=by
 obtain ⟨hok,hP,hC,hM⟩:=h
 obtain ⟨psM,hIM⟩:=hok.kM.1
 have hlM:=isH_len hIM
 have hp4:=hok.p4
 obtain ⟨hx64,hxb⟩:=chkRow_ok hc
 have Hxb:=Lib.hid hxb
 have HsM:=Lib.hid hok.sM
 have HrM:=Lib.hid (show ∀ r∈M,r.length=x.length from fun r hr=>by rw [hIM.rect r hr,hl])
 have HL:=Lib.hid hL
 obtain ⟨sx',gx,ox,cx',ex,hxc,hSx⟩:=hx
 injection ex with q1 q2 q3
 subst q1 q3
 rw [q2]
 have hnx:x.length≤4:=by omega
 have HSx:=Lib.hid hSx
 obtain ⟨sm',gm,om,cm',vs,em,hmc,hvl,hSm,hrm⟩:=hM
 injection em with q4 q5 q6
 subst q4 q6
 rw [q5]
 have hlM4:M.length≤4:=by omega
 have HS:=Lib.hid hSm
 have HV:=Lib.hid hvl
 have HR:=Lib.hid hrm
 have hX:=(Ext.refl w).alloc (.cells #[.slice sp P.length cp,.slice sc lc cc,.slice sm M.length cm] 34)
 have x2:(w.alloc (.cells #[.slice sp P.length cp,.slice sc lc cc,.slice sm M.length cm] 34)).cell? ⟨w.heap.size,2,none⟩=some (.slice sm M.length cm):=by go_simp
 have hsz:w.heap.size≤(w.alloc (.cells #[.slice sp P.length cp,.slice sc lc cc,.slice sm M.length cm] 34)).heap.size:=by simp
 clear hxb hIM hok hP hC hl hp4 hlM hSm hvl hrm hL hSx q2 q5 hc hx64
 go_enter Tryz.func77,Tryz.ntmps77
 go_wp2_with fail
 generalize w.alloc (.cells #[.slice sp P.length cp,.slice sc lc cc,.slice sm M.length cm] 34)=V at *
 generalize P.length=np at *
 go_loopw [5,14] (fun out idx wr => ∃ i:Nat,i≤M.length∧idx = .int .i64 i∧Hid (IntsV V.heap.size wr out ((tmpL M x).take i))∧Ext V wr) (fun _ idx _=>M.length-(intOf idx).toNat)
 case atStart=>exact ⟨0,by omega,by go_num,Lib.hid (by rw [List.take_zero]; exact IntsV.nil _ _),Ext.refl _⟩
 case round =>
  obtain ⟨i,hi',rfl,hV,hE⟩:=hrel
  generalize wr=X at *
  by_cases hlt:i<M.length
  ·have hii:(i:Int)<(M.length:Int):=by omega
   obtain rfl:=HS.out.addr (by rw [HV.out]; omega)
   obtain ⟨sr,br,or,cr,hrow,hrc,hSr⟩:=MatR.row HS.out HV.out HR.out hlt
   obtain ⟨r,hr⟩ : ∃ r,r=M[i]:=⟨_,rfl⟩
   have hrl:=HrM.out _ (List.getElem_mem hlt)
   have Hrb:=Lib.hid (HsM.out _ (List.getElem_mem hlt))
   have Htk:=Lib.hid (show (tmpL M x).take (i+1)=(tmpL M x).take i++[tmpE x M[i]] by
    rw [List.take_succ_eq_append_getElem (by simpa using hlt)]
    simp [tmpL])
   rw [← hr] at hrow hrc hSr hrl Hrb Htk
   have eX:=hX.trans hE
   have hrow':=eX.cell hrow
   have HSr:=Lib.hid (hSr.ext eX)
   have HSx2:=Lib.hid (HSx.out.ext eX)
   have Hil:=Lib.hid (show ((tmpL M x).take i).length=i by rw [List.length_take,tmpL_length]; omega)
   rw [hrl] at hrow' hrc
   clear hrow hSr hr
   obtain ⟨m,hm⟩ : ∃ m,m=x.length:=⟨_,rfl⟩
   rw [← hm] at hrow' hrc hxc hnx ⊢
   have Hm:=Lib.hid hm
   have Hrl:=Lib.hid (hrl.trans hm.symm)
   clear hm hrl
   go_wp2_with fail
   go_loopw [8,20] (fun sv jdx wr => ∃ j:Nat,j≤m∧jdx = .int .i64 j∧sv=I (tmpT x r j)∧Ext X wr) (fun _ jdx _=>m-(intOf jdx).toNat)
   case atStart=>exact ⟨0,by omega,by go_num,(show I 0=_ by unfold I S; rw [itoa_zero]).symm,Ext.refl _⟩
   case round =>
    obtain ⟨j,hj,rfl,rfl,hE2⟩:=hrel
    generalize wr=Y at *
    by_cases hjl:j<m
    ·have hji:(j:Int)<(m:Int):=by omega
     have hj1:j<x.length:=by rw [← Hm.out]; exact hjl
     have hj2:j<r.length:=by rw [Hrl.out]; exact hjl
     obtain ⟨a,ha⟩ : ∃ a,a=x.getD j 0:=⟨_,rfl⟩
     obtain ⟨b,hb⟩ : ∃ b,b=r.getD j 0:=⟨_,rfl⟩
     have Hts:=Lib.hid (tmpT_succ x r j)
     rw [← ha, ← hb] at Hts
     have hca:=hE2.cell (HSx2.out.cell j (.int .i64 a) (by rw [ha,getD_get hj1]; exact is_get hj1))
     have hcb:=hE2.cell (HSr.out.cell j (.int .i64 b) (by rw [hb,getD_get hj2]; exact is_get hj2))
     obtain rfl:=HSx.out.addr (by simp; omega)
     obtain rfl:=HSr.out.addr (by simp; omega)
     have hab:=getD_bd9 Hxb.out j
     have hbb:=getD_bd9 Hrb.out j
     rw [← ha] at hab
     rw [← hb] at hbb
     have n1:=tmpT_b Hxb.out Hrb.out (j:=j) (by omega)
     have n2:=nd_b66 (z:=a*b) (by have:=prod_b hab hbb; omega)
     have n3:=nd_b66 (z:=a) (by omega)
     have n4:=nd_b66 (z:=b) (by omega)
     obtain ⟨s,hs⟩ : ∃ s,s=tmpT x r j:=⟨_,rfl⟩
     rw [← hs] at n1 Hts ⊢
     have eY:=eX.trans hE2
     have HeY:=Lib.hid eY
     have c1:=Lib.hid (quietC (w:=Y) (fun W hW=>wholeOf_any (n:=a) (w:=W) (by omega) (by omega) (HL.out.ext (HeY.out.trans hW))))
     have c2:=Lib.hid (quietC (w:=Y) (fun W hW=>wholeOf_any (n:=b) (w:=W) (by omega) (by omega) (HL.out.ext (HeY.out.trans hW))))
     have c3:=Lib.hid (quietC (w:=Y) (fun W hW=>Mul_any (a:=a) (b:=b) (w:=W) (by unfold LIM; omega) (HL.out.ext (HeY.out.trans hW))))
     have c4:=Lib.hid (quietC (w:=Y) (fun W hW=>Add_any (a:=s) (b:=a*b) (w:=W) (by unfold LIM; omega) (by unfold LIM; omega) (HL.out.ext (HeY.out.trans hW))))
     have k2:=cell_regrown hcb
     clear hab hbb n1 n2 n3 n4 hs ha hb eY hj1 hj2
     go_wp2_with fail
     refine wp_region_quiet_tail 10 (by kernel_rfl) (by kernel_rfl) ?_
     simp only [List.take_succ_cons,List.take_zero,List.drop_succ_cons,List.drop_zero]
     repeat (quiet_step (first | exact c1.out _ _ | exact c2.out _ _ | exact c3.out _ _ | exact c4.out _ _))
     refine wpQuiet_nil ?_
     intro _ hw'
     obtain ⟨⟨dq,osq⟩,hw''⟩:=hw'
     subst hw''
     have hE5:=hE2.trans (ext_regrown Y dq osq)
     clear c1 c2 c3 c4 k2
     generalize grow (redrawn Y dq) osq=w5 at *
     go_wp2_with fail
     go_roundw
     case rel=>exact ⟨j+1,by omega,by go_num,by rw [Hts.out],hE5⟩
     case measure=>simp [intOf] <;> omega
    ·obtain rfl:j=m:=by omega
     have Hte:=Lib.hid (show tmpT x r j=tmpE x r by rw [Hm.out]; rfl)
     rw [Hte.out]
     have HVY:=Lib.hid (hV.out.ext hE2)
     have hYs:=(hE.trans hE2).size
     have hEY:=hE.trans hE2
     obtain ⟨z,hz⟩ : ∃ z,z=tmpE x r:=⟨_,rfl⟩
     rw [← hz] at Htk ⊢
     clear hV hz
     go_wp2_with (at_builtin; refine app_ints rfl _ _ rfl rfl (HVY.out.ext ((Ext.refl _).alloc _)) rfl (b:=Y.heap.size) (z:=z) (by go_simp) (by rw [Hil.out]; omega) (by simp; omega) ?_; intro gg cap2 w8 hO8 hB8 hG8; rw [Hil.out, ← Htk.out] at hO8; rw [Hil.out])
     have hE8:Ext V w8:=Below.trans (hEY.alloc (.cells #[I z] 79)) hB8
     have HO8:=Lib.hid hO8
     clear hG8 hB8 hO8
     go_wp2_with fail
     go_roundw
     case rel=>exact ⟨i+1,by omega,by go_num,HO8,hE8⟩
     case measure=>simp [intOf] <;> omega
  ·obtain rfl:i=M.length:=by omega
   have HF:=Lib.hid (show IntsV V.heap.size X u5 (tmpL M x) by have:=hV.out; rw [List.take_of_length_le (by simp)] at this; exact this)
   go_wp2_with fail
   go_ret
   exact ⟨_,rfl,HF.out.mono hsz,hX.trans hE⟩
end Go.Proofs.YtjnpakablgommaaGreatDoor
