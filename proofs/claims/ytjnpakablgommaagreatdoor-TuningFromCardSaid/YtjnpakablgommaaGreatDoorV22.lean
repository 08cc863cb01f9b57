/- Part 22 of the proof of the claim: contracts of the functions that it reaches, and plain laws; no condition. -/
import Derived.Test.YtjnpakablgommaaGreatDoorV18
import Derived.Test.YtjnpakablgommaaGreatDoorV14
import Derived.Test.YtjnpakablgommaaGreatDoorV12
import Derived.Test.YtjnpakablgommaaGreatDoorV16
import Derived.Test.YtjnpakablgommaaGreatDoorV17
set_option maxRecDepth 100000
namespace Go.Proofs.YtjnpakablgommaaGreatDoor
open Go.RowKit Go.Sort
section
variable {w:World} {ops:Array Oper} {rest:List Oper} {o:Oper} {a:Act} {Q:Exit→Act→World→Prop}
theorem app_lngs (hgd:o.guard=none) (s x:Operand) (ho:o.op = .call { callee := .builtin .append,args := #[s,x],argTypes := #[306,306] })
  {B:Nat} {v:Value} {r q:List Int} (hs:a.eval s=v) (hown:IntsV B w v r) {ad:Addr} {c:Nat} (hx:a.eval x = .slice (some ad) q.length c) (hc : ∀ (j:Nat) (u:Value),(ss q)[j]? = some u→w.cell? (ad.add j)=some u) (h0:0<q.length) (hl:r.length+q.length≤1000000000) (hB:B≤w.heap.size)
  (h : ∀ g cap w',IntsV B w' (slv g (r.length+q.length) cap) (r++q)→Below B w w'→w.grownBy w' v.ownBlock→(v.ownBlock=some g∨g=w.heap.size)→wpList Tryz.prog ops Q rest (a.put o.dst (slv g (r.length+q.length) cap)) w'):wpList Tryz.prog ops Q (o::rest) a w:=by
 obtain ⟨i0,hi,hz0,hz1,hz2⟩:=info_parts Tryz.infoStr
 refine wpList_append_lies w hgd s x 306 ho B 79 i0 _ 1 16 Tryz.underlying306 hi hz0 hz1 hz2 rfl (by omega) v r.length (ss r) hs hown ad q.length c (ss q) hx (by simp) hc (fun u hu=>by obtain ⟨z,_,rfl⟩:=List.mem_map.1 hu; rfl) h0 (by unfold maxLen; omega) (by omega) hB w.heap.size rfl ?_
 intro g cap w' h1 h2 h3 h4
 refine h g cap w' ?_ (Below.grown (Below.refl _ _) h2 hB (fun q hq=>(World.ownsRow.lt hown q hq).1)) h2 h3
 unfold IntsV
 rw [List.length_append,show ss (r++q)=ss r++ss q by simp [ss]]; exact h1
theorem app_lng (hgd:o.guard=none) (s x:Operand) (ho:o.op = .call { callee := .builtin .append,args := #[s,x],argTypes := #[306,306] })
  {B:Nat} {v:Value} {r:List Int} (hs:a.eval s=v) (hown:IntsV B w v r) {b:Nat} {z:Int} (hx:a.eval x = .slice (some ⟨b,0,none⟩) 1 1) (hc:w.cell? ⟨b,0,none⟩=some (I z)) (hl:r.length≤100000000) (hB:B≤w.heap.size)
  (h : ∀ g cap w',IntsV B w' (slv g (r.length+1) cap) (r++[z])→Below B w w'→w.grownBy w' v.ownBlock→wpList Tryz.prog ops Q rest (a.put o.dst (slv g (r.length+1) cap)) w'):wpList Tryz.prog ops Q (o::rest) a w:=by
 refine app_lngs hgd s x ho (q:=[z]) hs hown hx (fun j u hj => ?_) (by simp) (by simp; omega) hB fun g cap w' h1 h2 h3 _=>h g cap w' h1 h2 h3
 have:j=0:=by have:=(List.getElem?_eq_some_iff.1 hj).1; simp at this; omega
 subst this
 simp only [ss,List.map_cons,List.map_nil,List.getElem?_cons_zero,Option.some.injEq] at hj
 subst hj
 simpa [Addr.add_lit] using hc
end
def LofPost (w:World) (r:List Int) (e:Ending) (w':World):Prop := ∃ g c,e = .returned (slv g r.length c)∧OwnV 79 w.heap.size w' g c (ss r)∧Ext w w'
theorem ints_ownV {B:Nat} {w:World} {g c n:Nat} {r:List Int} (h:IntsV B w (slv g n c) r) (hn:r.length=n):OwnV 79 B w g c (ss r):=by
 subst hn
 unfold IntsV at h
 unfold OwnV
 simpa using h
set_option maxHeartbeats 1000000 in
theorem longOf_any {w : World} {v : Value} {r : List Int} (hR : RowR w v r) (hl : r.length ≤ 1000000) (h64 : ∀ z ∈ r, I64 z) (hL : Laid w) :
    Calls Tryz.prog 245 #[v] w (LofPost w r):=by
  obtain ⟨sa,gb,go,cap,rfl,hcp,hS⟩:=hR
  obtain ⟨i0,hi,hz0,hz1,hz2⟩:=info_parts Tryz.infoStr
  have HS:=Lib.hid hS
  have H64:=Lib.hid h64
  have HL:=Lib.hid hL
  obtain ⟨n,hn⟩ : ∃ n,n=r.length:=⟨_,rfl⟩
  rw [← hn] at hl hcp ⊢
  have Hn:=Lib.hid hn
  clear hS h64 hL hn
  go_enter Tryz.func245,Tryz.ntmps245
  go_wp2_with (at_make; refine wpList_make_own _ rfl _ _ 306 rfl w.heap.size 79 i0 (.string ⟨#[]⟩) 1 Tryz.underlying306 hi hz0 hz1 .i64 .i64 _ n rfl rfl (by omega) (by rw [hz2]; omega) (by unfold maxLen; omega) (Nat.le_refl _) ?_; intro w1 hown1 hgrow1)
  have he1:=ext_grown hgrow1
  have HO1:=Lib.hid (show IntsV w.heap.size w1 (slv w.heap.size 0 n) [] from hown1)
  obtain ⟨g0,hg0⟩ : ∃ g0,g0=w.heap.size:=⟨_,rfl⟩
  rw [← hg0] at HO1 ⊢
  have Hg0:=Lib.hid hg0
  clear hown1 hgrow1 hg0
  go_loopw [3,11] (fun out idx wr => ∃ (i g c:Nat),i≤n∧idx = .int .i64 i∧out=slv g i c∧Hid (IntsV g0 wr (slv g i c) (r.take i))∧Ext w wr) (fun _ idx _=>n-(intOf idx).toNat)
  case atStart=>exact ⟨0,g0,n,by omega,by go_num,rfl,HO1,he1⟩
  case round =>
    obtain ⟨i,g,c,hi',rfl,rfl,HO,hE⟩:=hrel
    generalize wr=X at *
    by_cases hlt:i<n
    · have hii:(i:Int)<(n:Int):=by omega
      have hlr:i<r.length:=by rw [← Hn.out]; exact hlt
      obtain ⟨z,hz⟩ : ∃ z,z=r[i]:=⟨_,rfl⟩
      have hcz:=hE.cell (HS.out.cell i (.int .i64 z) (by rw [hz]; exact is_get hlr))
      obtain rfl:=HS.out.addr (by simp; omega)
      have hz64:=H64.out z (by rw [hz]; exact List.getElem_mem hlr)
      have hof:=Lib.hid (wholeOf_any (n:=z) (w:=X) hz64.1 hz64.2 (HL.out.ext hE))
      have Hil:=Lib.hid (show (r.take i).length=i by rw [List.length_take]; omega)
      have Hsi:=Lib.hid (show r.take (i+1)=r.take i++[z] by rw [List.take_succ_eq_append_getElem hlr,hz])
      have hXs:=hE.size
      have hg0s:g0=w.heap.size:=Hg0.out
      have hsX:g0≤X.heap.size:=by omega
      clear hz hz64 hlr hg0s
      go_wp2_with (first
        | (go_at_call 137; refine hof.out.mono ?_; rintro e W ⟨rfl,hW⟩; have hYW:=hW.size)
        | (at_builtin; refine app_lng rfl _ _ rfl rfl ((HO.out.ext hW).ext ((Ext.refl _).alloc _)) rfl (b:=W.heap.size) (z:=z) (by go_simp) (by rw [Hil.out]; omega) (by simp; omega) ?_; intro gg cap2 w8 hO8 hB8 hG8; rw [Hil.out] at hO8 ⊢; rw [← Hsi.out] at hO8))
      have hE8:Ext w w8:=Below.trans ((hE.trans hW).alloc (.cells #[I z] 79)) (by rw [Hg0.out] at hB8; exact hB8)
      have HO8:=Lib.hid hO8
      clear hG8 hB8 hO8
      go_wp2_with fail
      go_roundw
      case rel=>exact ⟨i+1,_,_,by omega,by go_num,rfl,HO8,hE8⟩
      case measure=>simp [intOf] <;> omega
    · have hie:i=n:=by omega
      subst hie
      have HF:=Lib.hid (show OwnV 79 g0 X g c (ss r) by
        have:=HO.out
        rw [List.take_of_length_le (by rw [← Hn.out]; omega)] at this
        exact ints_ownV this Hn.out.symm)
      go_wp2_with fail
      go_ret
      exact ⟨g,c,by rw [← Hn.out]; rfl,by rw [← Hg0.out]; exact HF.out,hE⟩
set_option maxHeartbeats 1000000 in
theorem zeros_any {w:World} {n:Nat} (hn:n≤1000000) (hL:Laid w) :
  Calls Tryz.prog 249 #[.int .i64 n] w (LofPost w (List.replicate n 0)):=by
 obtain ⟨i0,hi,hz0,hz1,hz2⟩:=info_parts Tryz.infoInt
 have HL:=Lib.hid hL
 clear hL
 go_enter Tryz.func249,Tryz.ntmps249
 go_wp2_with (at_make; refine wpList_make_full _ rfl _ _ 30 rfl w.heap.size 3 i0 (.int .i64 0) 1 Tryz.underlying30 hi hz0 hz1 .i64 .i64 _ _ n rfl rfl (by omega) (by omega) (by rw [hz2]; omega) (by unfold maxLen; omega) (Nat.le_refl _) ?_; intro w1 hown1 hgrow1)
 have hE1:=ext_grown hgrow1
 have hb0:OwnV 3 w.heap.size w1 w.heap.size n (is (List.replicate n 0)):=row_ownV (zero_row hown1) (by simp)
 have hlo:=Lib.hid (longOf_any (w:=w1) (v:=slv w.heap.size n n) (r:=List.replicate n 0) ⟨_,w.heap.size,0,n,by simp,by simp,hb0.sl⟩ (by simpa using hn) (fun z hz=>by have:=(List.mem_replicate.1 hz).2; subst this; unfold I64; omega) (HL.out.ext hE1))
 clear hb0 hown1 hgrow1
 go_wp2_with fail
 refine hlo.out.mono ?_
 rintro e w2 ⟨g,c,rfl,hO,hE2⟩
 have HO:=Lib.hid (hO.mono hE1.size)
 have hE:=hE1.trans hE2
 clear hO
 go_wp2_with fail
 go_ret
 exact ⟨g,c,by rw [List.length_replicate]; rfl,HO.out,hE⟩
def LsoPost (w:World) (M:Mx) (e:Ending) (w':World):Prop := ∃ v ad,e = .returned v∧LrX w.heap.size w' v M ad∧Ext w w'
theorem LrX.lt {B:Nat} {w:World} {v:Value} {F:Mx} {ad:List (Nat×Nat)} (h:LrX B w v F ad) : ∀ i (_:i<ad.length) (_:i<F.length),0<F[i].length→B≤ad[i].1∧ad[i].1<w.heap.size :=
 fun i a b c=>(h.row i b a c).lt
set_option maxHeartbeats 1000000 in
theorem longsOf_any {w:World} {v:Value} {M:Mx} {n:Nat} (hM:MatR w v M) (hR:Rect n M) (h0:0<n) (hl:M.length≤1000000) (hn:n≤1000000) (h64 : ∀ r∈M,∀ z∈r,I64 z) (hL:Laid w) :
  Calls Tryz.prog 194 #[v] w (LsoPost w M):=by
 obtain ⟨sa,gb,go,cap,vs,rfl,hcap,hvl,hS,hr⟩:=hM
 have HS:=Lib.hid hS
 have HV:=Lib.hid hvl
 have HR:=Lib.hid hr
 have HRe:=Lib.hid hR
 have H64:=Lib.hid h64
 have HL:=Lib.hid hL
 clear hS hvl hr hR h64 hL
 go_enter Tryz.func194,Tryz.ntmps194
 go_wp2_with fail
 go_loopw [3,8] (fun out idx wr => ∃ (i:Nat) (ad:List (Nat×Nat)),i≤M.length∧idx = .int .i64 i∧Hid (LrX w.heap.size wr out (M.take i) ad)∧Ext w wr) (fun _ idx _=>M.length-(intOf idx).toNat)
 case atStart=>exact ⟨0,[],by omega,by go_num,Lib.hid (LrX.nil _ _),Ext.refl _⟩
 case round =>
  obtain ⟨i,ad,hi',rfl,hV,hE⟩:=hrel
  generalize wr=X at *
  by_cases hlt:i<M.length
  ·have hii:(i:Int)<(M.length:Int):=by omega
   obtain rfl:=HS.out.addr (by rw [HV.out]; omega)
   obtain ⟨sr,br,or,cr,hrow,hrc,hSr⟩:=MatR.row HS.out HV.out HR.out hlt
   obtain ⟨r,hr⟩ : ∃ r,r=M[i]:=⟨_,rfl⟩
   have hrn:r.length=n:=by rw [hr]; exact HRe.out _ (List.getElem_mem hlt)
   have hr64 : ∀ z∈r,I64 z:=by rw [hr]; exact H64.out _ (List.getElem_mem hlt)
   have Hsn:=Lib.hid (take_snocM hlt)
   rw [← hr] at hrow hrc hSr Hsn
   have hlo:=Lib.hid (longOf_any (w:=X) (v := .slice sr r.length cr) (r:=r) ⟨sr,br,or,cr,rfl,hrc,hSr.ext hE⟩ (by omega) hr64 (HL.out.ext hE))
   have hrow':=hE.cell hrow
   have Hil:=Lib.hid (show (M.take i).length=i by rw [List.length_take]; omega)
   have Hlt:=Lib.hid hV.out.lt
   have hXw:=hE.size
   have Hrn:=Lib.hid hrn
   rw [hrn] at hrow'
   clear hrow hSr hr hr64 hrc
   rw [hrn] at hlo
   clear hrn
   go_wp2_with fail
   refine hlo.out.mono ?_
   rintro e W ⟨g0,c0,rfl,hO,hE2⟩
   have HO:=Lib.hid hO
   have hEW:=hE.trans hE2
   rw [Hrn.out]
   have Hne:=Lib.hid (show 0<r.length → ∀ i (h:i<ad.length) (h':i<(M.take _).length),0<(M.take _)[i].length→ad[i].1≠g0 from fun _ i a b c=>by
    have h1:=HO.out.lt.1
    have h2:=(Hlt.out i a b c).2
    omega)
   have hWs:=hEW.size
   clear hO hlo
   go_wp2_with (at_builtin; refine app_longs rfl _ _ rfl (B:=w.heap.size) rfl ((hV.out.ext hE2).ext ((Ext.refl _).alloc _)) rfl (b:=W.heap.size) (r:=r) (g0:=g0) (c0:=c0) (by rw [Hrn.out,xv_pos h0]; go_simp) (fun _=>(HO.out.mono hXw).ext ((Ext.refl _).alloc _)) Hne.out (by rw [Hil.out]; omega) (by simp; omega) ?_; intro gg cap2 w8 hO8 hB8 hG8; rw [Hil.out, ← Hsn.out] at hO8; rw [Hil.out])
   have hE8:Ext w w8:=Below.trans (hEW.alloc (.cells #[slv g0 n c0] 306)) hB8
   have HO8:=Lib.hid hO8
   clear hG8 hB8 hO8
   go_wp2_with fail
   go_roundw
   case rel=>exact ⟨i+1,_,by omega,by go_num,HO8,hE8⟩
   case measure=>simp [intOf] <;> omega
  ·have hie:i=M.length:=by omega
   subst hie
   have HF:=Lib.hid (show LrX w.heap.size X _ M ad by have:=hV.out; rw [List.take_length] at this; exact this)
   go_wp2_with fail
   go_ret
   exact ⟨_,ad,rfl,HF.out,hE⟩
set_option maxHeartbeats 1000000 in
theorem repeat_any {m : Nat} (hm : m ≤ 1000000) {b o c : Nat} {z : Int} {w : World} (hc : w.cell? ⟨b, o, none⟩ = some (I z)) :
    Calls Tryz.prog 186 #[.slice (some ⟨b,o,none⟩) 1 c,.int .i64 m] w fun e w' => ∃ g cap,e = .returned (slv g m cap)∧OwnV 79 w.heap.size w' g cap (ss (List.replicate m z))∧Ext w w':=by
  obtain ⟨i0,hi,hz0,hz1,hz2⟩:=info_parts Tryz.infoStr
  have hmul:=Lib.hid (Tryz.bits_Mul 1 m (by omega) (by omega))
  rw [Nat.one_mul,Nat.div_eq_of_lt (by omega),Nat.mod_eq_of_lt (by omega)] at hmul
  go_enter Tryz.func186,Tryz.ntmps186
  go_wp2_with (first
    | (go_at_call 210; refine (hmul.out _).mono ?_; rintro e w1 ⟨rfl,hw⟩; have hw':=hw.symm; clear hw; subst hw')
    | (at_make; refine wpList_make_full _ rfl _ _ 144 rfl w.heap.size 79 i0 (.string ⟨#[]⟩) 1 Tryz.underlying144 hi hz0 hz1 .i64 .i64 _ _ m rfl rfl (by omega) (by omega) (by rw [hz2]; omega) (by unfold maxLen; omega) (Nat.le_refl _) ?_; intro w1 hown1 hgrow1))
  have he1:=ext_grown hgrow1
  have hb1:w1.heap[w.heap.size]? = some (.cells (fill z 0 m).toArray 79 (0,0)):=by
    have hO:OwnV 79 w.heap.size w1 w.heap.size m (fill z 0 m):=by
      have e:(madeCells (Value.string ⟨#[]⟩).cells (m*1)).toList=fill z 0 m:=by
        rw [show (Value.string ⟨#[]⟩).cells = #[.string ⟨#[]⟩] from rfl,toList_madeCells_one,Nat.mul_one]; simp [fill]
      rw [e] at hown1
      unfold OwnV; rw [fill_length z (Nat.zero_le m)]
      exact hown1
    obtain ⟨cur,_,h2,h3,_,h5,h6⟩:=hO.parts
    rw [fill_length z (Nat.zero_le m)] at h6
    have:cur=(fill z 0 m).toArray:=by
      apply Array.ext'
      rw [← h6,List.take_of_length_le (by rw [Array.length_toList,h5]; exact Nat.le_refl _)]
    rw [this] at h2; exact h2
  have hc1:=he1.cell hc
  have hlb:=World.block_lt_of_cell? _ _ hc
  have Hb1:=Lib.hid hb1
  have Hfl:=Lib.hid (fun n (h:n≤m)=>fill_length z h)
  clear hgrow1 hown1 hb1
  obtain ⟨g,hg⟩ : ∃ g,g=w.heap.size:=⟨_,rfl⟩
  have Hg:=Lib.hid hg
  rw [← hg] at Hb1 hlb ⊢
  clear hg
  have hinfo:(Tryz.prog.info? 79).map (·.size)=some 1:=by rw [hi]; simp [hz1]
  have Hinfo:=Lib.hid hinfo
  clear hinfo
  have hrun:=run_copy_row (P:=Tryz.prog) w1 144 144 3 79 g 0 m m ⟨b,o,none⟩ 1 c (fill z 0 m).toArray 79 (List.replicate (min 1 m) (I z)) Tryz.underlying144 Hinfo.out Hb1.out (by simp)
    (fun j v hj=>by
      have hj0:j=0:=by have:=(List.getElem?_eq_some_iff.1 hj).1; simp at this; omega
      subst hj0
      rw [List.getElem?_replicate] at hj
      split at hj
      · rw [← hj]; exact hc1
      · cases hj) (by simp [Hfl.out 0 (Nat.zero_le m)]; omega) (fun v hv=>by rw [List.mem_replicate] at hv; rw [hv.2]; rfl)
  have hsp:=fill_splice z (n:=0) (m:=m) (k:=min 1 m) (by omega)
  unfold splice at hsp
  rw [show ((fill z 0 m).toArray.toList.take 0++List.replicate (min 1 m) (I z)++(fill z 0 m).toArray.toList.drop (0+(List.replicate (min 1 m) (I z)).length))=fill z (0+min 1 m) m by rw [← hsp]; simp] at hrun
  rw [Nat.zero_add,List.length_replicate] at hrun
  have Hrun:=Lib.hid hrun
  clear hrun hsp
  go_wp2_with fail
  rw [Hrun.out]
  have he2:Ext w (w1.setRow g (fill z (min 1 m) m).toArray):=below_setRow he1 (by rw [Hg.out]; exact Nat.le_refl _) _
  have hb2:(w1.setRow g (fill z (min 1 m) m).toArray).heap[g]? = some (.cells (fill z (min 1 m) m).toArray 79 (0,0)):=setRow_heap w1 g _ _ 79 _ Hb1.out
  have Hb2:=Lib.hid hb2
  clear Hrun Hb1 hb2
  generalize w1.setRow g (fill z (min 1 m) m).toArray=w2 at *
  obtain ⟨q,hq⟩ : ∃ q,q=min 1 m:=⟨_,rfl⟩
  have Hq:=Lib.hid hq
  rw [← hq] at Hb2 ⊢
  have hqm:q≤m:=by omega
  have hq1:0<m→0<q:=fun h=>by omega
  have Hq1:=Lib.hid hq1
  clear hq hq1
  go_wp2_with fail
  go_loopw [8] (fun nn wr => ∃ n:Nat,n≤m∧nn = .int .i64 n∧Hid (0<m→0<n)∧Hid (wr.heap[g]? = some (.cells (fill z n m).toArray 79 (0,0)))∧Ext w wr) (fun nn _=>m-(intOf nn).toNat)
  case atStart=>exact ⟨q,hqm,by go_num,Hq1,Hb2,he2⟩
  case round =>
    obtain ⟨n,hn,rfl,Hn,Hb,hE⟩:=hrel
    generalize wr=X at *
    by_cases hlt:n<m
    · have hni:(n:Int)<(m:Int):=by omega
      have hn0:0<n:=Hn.out (by omega)
      obtain ⟨k,hk⟩ : ∃ k,k=min n (m-n):=⟨_,rfl⟩
      have hk0:0<k:=by omega
      have hkm:n+k≤m:=by omega
      have Hk:=Lib.hid hk
      have Hsp:=Lib.hid (fill_splice z hkm)
      clear hk
      have hmn : ¬ m=n:=by omega
      have Hb5:=Lib.hid (show X.drew.heap[g]? = some (.cells (fill z n m).toArray 79 (0,0)) from Hb.out)
      have hE6:=hE.drew
      have hrun:=run_copy_row (P:=Tryz.prog) X.drew 144 144 3 79 g n (m-n) (m-n) ⟨g,0,none⟩ n m (fill z n m).toArray 79 (List.replicate k (I z)) Tryz.underlying144 Hinfo.out Hb5.out (by rw [List.length_replicate,Hk.out])
        (fun j v hj=>by
          have hj0:j<k:=by have:=(List.getElem?_eq_some_iff.1 hj).1; simpa using this
          have hjn:j<n:=by have:=Hk.out; omega
          rw [List.getElem?_replicate,if_pos hj0] at hj
          rw [← hj]
          simp only [Addr.add_lit,Nat.zero_add,World.cell?,Hb5.out]
          have:=fill_get z (m:=m) hjn
          simpa using this) (by simp only [List.size_toArray,Hfl.out n hn,List.length_replicate]; exact hkm) (fun v hv=>by rw [List.mem_replicate] at hv; rw [hv.2]; rfl)
      have hsp:=Hsp.out
      unfold splice at hsp
      rw [show ((fill z n m).toArray.toList.take n++List.replicate k (I z)++(fill z n m).toArray.toList.drop (n+(List.replicate k (I z)).length))=fill z (n+k) m by rw [← hsp]; simp,List.length_replicate] at hrun
      have hE7:Ext w (X.drew.setRow g (fill z (n+k) m).toArray):=below_setRow hE6 (by rw [Hg.out]; exact Nat.le_refl _) _
      have Hb7:=Lib.hid (setRow_heap X.drew g _ (fill z (n+k) m).toArray 79 _ Hb5.out)
      obtain ⟨Y,hY⟩ : ∃ Y,Y=X.drew.setRow g (fill z (n+k) m).toArray:=⟨_,rfl⟩
      rw [← hY] at hrun hE7 Hb7
      clear hsp hY hE6 Hb5
      go_wp2_with fail
      go_region
      clear hrun
      go_wp2_with fail
      go_roundw
      case rel=>exact ⟨n+k,hkm,by go_num,Lib.hid (fun _=>by omega),Hb7,hE7⟩
      case measure=>simp [intOf] <;> omega
    · have hnm:n=m:=by omega
      subst hnm
      go_wp2_with fail
      go_ret
      refine ⟨g,n,rfl,?_,hE⟩
      refine OwnV.of (by rw [Hg.out]; exact Nat.le_refl _) Hb.out (by simp) (by unfold maxLen; omega) (by simp [Hfl.out n hn]) ?_
      rw [fill_all]; exact List.take_of_length_le (by simp)
set_option maxHeartbeats 1000000 in
theorem index_slead {w:World} {sa:Option Addr} {gb go cap:Nat} {vs:List Value} {p:Nat→Bool} {k:Int} (hS:Sl w sa gb go vs) (hl:vs.length≤1000000)
  (hF : ∀ i (h:i<vs.length) W,Ext w W→Calls Tryz.prog 241 #[vs[i]] W fun e w'=>e = .returned (.bool (p i))∧Ext W w') (hk:IxR p vs.length k) :
  Calls Tryz.prog 240 #[.slice sa vs.length cap,.func (.func 241) #[] #[]] w fun e w'=>e = .returned (.int .i64 k)∧Ext w w':=by
 have HF:=Lib.hid hF
 have HK:=Lib.hid hk
 have HS:=Lib.hid hS
 clear hF hk hS
 go_enter Tryz.func240,Tryz.ntmps240
 go_wp2_with fail
 go_loopw [8] (fun idx wr => ∃ i:Nat,i≤vs.length∧idx = .int .i64 i∧Hid (∀ j,j<i→p j=false)∧Ext w wr) (fun idx _=>vs.length-(intOf idx).toNat)
 case atStart=>exact ⟨0,by omega,by go_num,Lib.hid (fun j h=>by omega),Ext.refl _⟩
 case round =>
  obtain ⟨i,hi,rfl,Hp,hE⟩:=hrel
  generalize wr=X at *
  by_cases hlt:i<vs.length
  ·have hii:(i:Int)<(vs.length:Int):=by omega
   obtain ⟨u,hu⟩ : ∃ u,u=vs[i]:=⟨_,rfl⟩
   have hc:=hE.cell (HS.out.cell i u (by rw [hu]; exact List.getElem?_eq_getElem hlt))
   obtain rfl:=HS.out.addr (by omega)
   have hf:=HF.out i hlt X hE
   rw [← hu] at hf
   have Hf:=Lib.hid hf
   clear hf hu
   cases hpi:p i
   ·rw [hpi] at Hf
    have Hpi:=Lib.hid hpi
    clear hpi
    go_wp2_with fail
    refine Hf.out.mono ?_
    rintro e W ⟨rfl,hE2⟩
    go_wp2_with fail
    go_roundw
    case rel=>exact ⟨i+1,by omega,by go_num,Lib.hid (fun j hj=>by
     by_cases e:j=i
     ·subst e; exact Hpi.out
     ·exact Hp.out j (by omega)),hE.trans hE2⟩
    case measure=>simp [intOf] <;> omega
   ·rw [hpi] at Hf
    have Hki:=Lib.hid (IxR_at HK.out hlt hpi Hp.out)
    clear hpi
    go_wp2_with fail
    refine Hf.out.mono ?_
    rintro e W ⟨rfl,hE2⟩
    go_wp2_with fail
    go_ret
    exact ⟨by rw [Hki.out]; rfl,hE.trans hE2⟩
  ·have Hki:=Lib.hid (IxR_no HK.out (fun j hj=>Hp.out j (by omega)))
   go_wp2_with fail
   go_ret
   exact ⟨by rw [Hki.out]; rfl,hE⟩
theorem sleadC_any (z:Int) (w:World):Calls Tryz.prog 241 #[I z] w fun e w'=>e = .returned (.bool (decide (z≠0)))∧Ext w w':=by
 have hitz:(Lib.itoa z==[48])=decide (z=0):=itoa_eq_zero z
 by_cases h:z=0
 ·rw [decide_eq_true h] at hitz
  have hb:decide (z≠0)=false:=decide_eq_false (by simpa using h)
  rw [hb]
  clear h hb
  go_enter Tryz.func241,Tryz.ntmps241
  go_wp2
  go_ret
  exact ⟨rfl,Ext.refl _⟩
 ·rw [decide_eq_false h] at hitz
  have hb:decide (z≠0)=true:=decide_eq_true h
  rw [hb]
  have hitz2:(Lib.itoa z != [48])=true:=by simp [bne,hitz]
  clear h hb
  go_enter Tryz.func241,Tryz.ntmps241
  go_wp2
  go_ret
  exact ⟨rfl,Ext.refl _⟩
theorem slead_any {w:World} {sa:Option Addr} {gb go cap:Nat} {l:List Int} (hS:Sl w sa gb go (ss l)) (hl:l.length≤1000000) :
  Calls Tryz.prog 187 #[.slice sa l.length cap] w fun e w'=>e = .returned (.int .i64 (pv l:Nat))∧Ext w w':=by
 have hix:=index_slead (cap:=cap) (p:=fun j=>decide (l.getD j 0≠0)) (k:=pvI l) (w:=w) hS (by rw [ss_length]; exact hl) (fun j hj W hW=>by
  have hj':j<l.length:=by simpa using hj
  have e:(ss l)[j]=I (l.getD j 0):=by rw [getD_get hj']; simp [ss]
  rw [e]; exact sleadC_any _ W) (by rw [ss_length]; exact pvI_ix l)
 rw [ss_length] at hix
 have Hix:=Lib.hid hix
 clear hix hS
 by_cases h:pv l<l.length
 ·have e:pvI l=(pv l:Int):=by unfold pvI; rw [if_pos h]
  rw [e] at Hix
  clear e h
  generalize pv l=p at *
  go_enter Tryz.func187,Tryz.ntmps187
  go_wp2_with fail
  refine Hix.out.mono ?_
  rintro e w1 ⟨rfl,hE1⟩
  go_wp2_with fail
  go_ret
  exact ⟨rfl,hE1⟩
 ·have e:pvI l = -1:=by unfold pvI; rw [if_neg h]
  have e2:pv l=l.length:=by have:=pv_le l; omega
  rw [e] at Hix
  rw [e2]
  clear e h e2
  go_enter Tryz.func187,Tryz.ntmps187
  go_wp2_with fail
  refine Hix.out.mono ?_
  rintro e w1 ⟨rfl,hE1⟩
  go_wp2_with fail
  go_ret
  exact ⟨rfl,hE1⟩
theorem GrX.lt {B:Nat} {w:World} {v:Value} {F:Mx} {ad:List (Nat×Nat)} (h:GrX B w v F ad) : ∀ i (_:i<ad.length) (_:i<F.length),0<F[i].length→B≤ad[i].1∧ad[i].1<w.heap.size :=
 fun i a b c=>(h.row i b a c).lt
theorem IntsV.xv {B:Nat} {w:World} {v:Value} {l:List Int} (h:IntsV B w v l) (h0:l.length=0→v = .slice none 0 0) : ∃ g c,v=xv l.length g c∧(0<l.length→OwnV 79 B w g c (ss l)):=by
 rcases Nat.eq_zero_or_pos l.length with e | e
 ·exact ⟨0,0,by rw [h0 e,e,xv_zero],fun h=>by omega⟩
 ·rcases h.2 with ⟨rfl,h1⟩ | ⟨g,cap,cur,rfl,hb,hg,hn,hm,hs,ht⟩
  ·omega
  ·refine ⟨g,cap,by rw [xv_pos e],fun _ => ?_⟩
   unfold OwnV; rw [ss_length]; exact h
set_option maxHeartbeats 1000000 in
theorem sbig_any {w : World} {v : Value} {M : Mx} (hM : MatR w v M) (hl : M.length ≤ 1000000) (hn : ∀ r ∈ M, r.length ≤ 1000000) (h64 : ∀ r ∈ M, ∀ z ∈ r, I64 z) (hL : Laid w) :
    Calls Tryz.prog 185 #[v] w fun e w' => ∃ v' ad,e = .returned v'∧GrX w.heap.size w' v' M ad∧Ext w w':=by
  obtain ⟨sa,gb,go,cap,vs,rfl,hcap,hvl,hS,hr⟩:=hM
  have HS:=Lib.hid hS
  have HV:=Lib.hid hvl
  have HR:=Lib.hid hr
  have HN:=Lib.hid hn
  have H64:=Lib.hid h64
  have HL:=Lib.hid hL
  clear hS hvl hr hn h64 hL
  go_enter Tryz.func185,Tryz.ntmps185
  go_wp2_with fail
  go_loopw [3,11] (fun out idx wr => ∃ (i:Nat) (ad:List (Nat×Nat)),i≤M.length∧idx = .int .i64 i∧Hid (GrX w.heap.size wr out (M.take i) ad)∧Ext w wr) (fun _ idx _=>M.length-(intOf idx).toNat)
  case atStart=>exact ⟨0,[],by omega,by go_num,Lib.hid (GrX.nil _ _),Ext.refl _⟩
  case round =>
    obtain ⟨i,ad,hi',rfl,hV,hE⟩:=hrel
    generalize wr=X at *
    by_cases hlt:i<M.length
    · have hii:(i:Int)<(M.length:Int):=by omega
      obtain rfl:=HS.out.addr (by rw [HV.out]; omega)
      obtain ⟨sr,br,or,cr,hrow,hrc,hSr⟩:=MatR.row HS.out HV.out HR.out hlt
      obtain ⟨r,hr⟩ : ∃ r,r=M[i]:=⟨_,rfl⟩
      have Hr64:=Lib.hid (H64.out _ (List.getElem_mem hlt))
      have hrn:=HN.out _ (List.getElem_mem hlt)
      have Hsn:=Lib.hid (take_snocM hlt)
      rw [← hr] at hrow hrc hSr Hr64 hrn Hsn
      have hrow':=hE.cell hrow
      have HSr:=Lib.hid (hSr.ext hE)
      have Hil:=Lib.hid (show (M.take i).length=i by rw [List.length_take]; omega)
      have Hlt:=Lib.hid hV.out.lt
      have hXw:=hE.size
      clear hrow hSr hr
      go_wp2_with fail
      go_loopw [6,17] (fun lv jdx wr => ∃ j:Nat,j≤r.length∧jdx = .int .i64 j∧Hid (IntsV X.heap.size wr lv (r.take j))∧Hid (j=0→lv = .slice none 0 0)∧Ext X wr) (fun _ jdx _=>r.length-(intOf jdx).toNat)
      case atStart=>exact ⟨0,by omega,by go_num,Lib.hid (IntsV.nil _ _),Lib.hid (fun _=>rfl),Ext.refl _⟩
      case round =>
        obtain ⟨j,hj,rfl,hO,h0,hE2⟩:=hrel
        generalize wr=Y at *
        by_cases hjl:j<r.length
        · have hji:(j:Int)<(r.length:Int):=by omega
          obtain ⟨z,hz⟩ : ∃ z,z=r[j]:=⟨_,rfl⟩
          have hcz:=hE2.cell (HSr.out.cell j (.int .i64 z) (by rw [hz]; exact is_get hjl))
          obtain rfl:=HSr.out.addr (by simp; omega)
          have hz64:=Hr64.out z (by rw [hz]; exact List.getElem_mem hjl)
          have hof:=Lib.hid (wholeOf_any (n:=z) (w:=Y) hz64.1 hz64.2 (HL.out.ext (hE.trans hE2)))
          have Hjl:=Lib.hid (show (r.take j).length=j by rw [List.length_take]; omega)
          have Hsj:=Lib.hid (show r.take (j+1)=r.take j++[z] by rw [List.take_succ_eq_append_getElem hjl,hz])
          have hXY:=hE2.size
          clear hz hz64
          go_wp2_with (first
            | (go_at_call 137; refine hof.out.mono ?_; rintro e W ⟨rfl,hW⟩; have hYW:=hW.size)
            | (at_builtin; refine app_ints rfl _ _ rfl rfl ((hO.out.ext hW).ext ((Ext.refl _).alloc _)) rfl (b:=W.heap.size) (z:=z) (by go_simp) (by rw [Hjl.out]; omega) (by simp; omega) ?_; intro gg cap2 w8 hO8 hB8 hG8; rw [Hjl.out] at hO8 ⊢; rw [← Hsj.out] at hO8))
          have hE8:Ext X w8:=Below.trans ((hE2.trans hW).alloc (.cells #[I z] 79)) hB8
          have HO8:=Lib.hid hO8
          clear hG8 hB8 hO8
          go_wp2_with fail
          go_roundw
          case rel=>exact ⟨j+1,by omega,by go_num,HO8,Lib.hid (fun h=>by omega),hE8⟩
          case measure=>simp [intOf] <;> omega
        · have hje:j=r.length:=by omega
          have htk:r.take j=r:=List.take_of_length_le (by omega)
          rw [htk] at hO
          obtain ⟨g0,c0,hxv,hO0⟩:=hO.out.xv (fun h=>h0.out (by omega))
          have HO0:=Lib.hid hO0
          subst hxv
          obtain ⟨xa,xl,xk,hxv⟩:=xv_slice r.length g0 c0
          have Hxv:=Lib.hid hxv
          rw [hxv]
          have hXY:=hE2.size
          have Hne:=Lib.hid (show 0<r.length → ∀ i (h:i<ad.length) (h':i<(M.take _).length),0<(M.take _)[i].length→ad[i].1≠g0 from fun h i a b c=>by
            have h1:=(HO0.out h).lt.1
            have h2:=(Hlt.out i a b c).2
            omega)
          clear hO0 hxv hje htk h0 hO
          go_wp2_with (at_builtin; refine app_grid rfl _ _ rfl (B:=w.heap.size) rfl ((hV.out.ext hE2).ext ((Ext.refl _).alloc _)) rfl (b:=Y.heap.size) (r:=r) (g0:=g0) (c0:=c0) (by rw [Hxv.out]; go_simp) (fun h=>((HO0.out h).mono hXw).ext ((Ext.refl _).alloc _)) Hne.out (by rw [Hil.out]; omega) (by simp; omega) ?_; intro gg cap2 w8 hO8 hB8 hG8; rw [Hil.out, ← Hsn.out] at hO8; rw [Hil.out])
          have hE8:Ext w w8:=Below.trans ((hE.trans hE2).alloc (.cells #[.slice xa xl xk] 144)) hB8
          have HO8:=Lib.hid hO8
          clear hG8 hB8 hO8
          go_wp2_with fail
          go_roundw
          case rel=>exact ⟨i+1,_,by omega,by go_num,HO8,hE8⟩
          case measure=>simp [intOf] <;> omega
    · have hie:i=M.length:=by omega
      subst hie
      go_wp2_with fail
      go_ret
      have:=hV.out
      rw [List.take_length] at this
      exact ⟨_,ad,rfl,this,hE⟩
end Go.Proofs.YtjnpakablgommaaGreatDoor
namespace Go.Proofs.YtjnpakablgommaaGreatDoor
def rowSub (i t:Nat) (q:Int) (A:Mx):Mx:=A.set i (subK q (A.getD i []) (A.getD t []))
def colSub (i o:Nat) (q:Int) (A:Mx):Mx:=A.map fun l=>l.set i (l.getD i 0-q*l.getD o 0)
def rowSwap (i j:Nat) (A:Mx):Mx:=(A.set i (A.getD j [])).set j (A.getD i [])
def swapL (i j:Nat) (l:List Int):List Int:=(l.set i (l.getD j 0)).set j (l.getD i 0)
def colSwap (i j:Nat) (A:Mx):Mx:=A.map (swapL i j)
def rowNeg (i:Nat) (A:Mx):Mx:=A.set i ((A.getD i []).map fun z => -z)
def betB (A:Mx) (b:Option (Nat×Nat)) (i k:Nat):Option (Nat×Nat) :=
 if eM A i k=0 then b else match b with
  | none=>some (i,k)
  | some p=>if (eM A i k).natAbs<(eM A p.1 p.2).natAbs then some (i,k) else b
def bestRow (A:Mx) (i t:Nat) (b:Option (Nat×Nat)):Nat→Option (Nat×Nat)
 | 0=>b
 | k+1=>betB A (bestRow A i t b k) i (t+k)
def bestAll (A:Mx) (t w:Nat):Nat→Option (Nat×Nat)
 | 0=>none
 | i+1=>bestRow A (t+i) t (bestAll A t w i) w
structure Dg where
 a:Mx
 l:Mx
 r:Mx
 deriving Inhabited
def swapD (t i k:Nat) (s:Dg):Dg:=⟨colSwap t k (rowSwap t i s.a),rowSwap t i s.l,colSwap t k s.r⟩
def rowStep (t i:Nat) (s:Dg):Dg:=⟨rowSub i t ((eM s.a i t).fdiv (eM s.a t t)) s.a,rowSub i t ((eM s.a i t).fdiv (eM s.a t t)) s.l,s.r⟩
def rowsTo (t:Nat):Nat→Dg→Dg
 | 0,s=>s
 | j+1,s=>rowStep t (t+1+j) (rowsTo t j s)
def rowsOk (t:Nat):Nat→Dg→Bool
 | 0,_=>true
 | j+1,s=>rowsOk t j s&&decide ((eM (rowsTo t j s).a (t+1+j) t).fmod (eM (rowsTo t j s).a t t)=0)
def colStep (t k:Nat) (s:Dg):Dg:=⟨colSub k t ((eM s.a t k).fdiv (eM s.a t t)) s.a,s.l,colSub k t ((eM s.a t k).fdiv (eM s.a t t)) s.r⟩
def colsTo (t:Nat):Nat→Dg→Dg
 | 0,s=>s
 | j+1,s=>colStep t (t+1+j) (colsTo t j s)
def colsOk (t:Nat):Nat→Dg→Bool
 | 0,_=>true
 | j+1,s=>colsOk t j s&&decide ((eM (colsTo t j s).a t (t+1+j)).fmod (eM (colsTo t j s).a t t)=0)
def clearD (n c t:Nat) (s:Dg):Dg:=colsTo t (c-(t+1)) (rowsTo t (n-(t+1)) s)
def clearOk (n c t:Nat) (s:Dg):Bool:=rowsOk t (n-(t+1)) s&&colsOk t (c-(t+1)) (rowsTo t (n-(t+1)) s)
def badRow (A:Mx) (t i:Nat):Nat→Bool
 | 0=>false
 | k+1=>badRow A t i k||decide ((eM A i (t+1+k)).fmod (eM A t t)≠0)
def spoil (A:Mx) (t w:Nat):Nat→Option Nat
 | 0=>none
 | j+1=>match spoil A t w j with
  | some x=>some x
  | none=>if badRow A t (t+1+j) w then some (t+1+j) else none
def addD (t i:Nat) (s:Dg):Dg:=⟨rowSub t i (-1) s.a,rowSub t i (-1) s.l,s.r⟩
def posD (t:Nat) (s:Dg):Dg:=if eM s.a t t<0 then ⟨rowNeg t s.a,rowNeg t s.l,s.r⟩ else s
def stepD (n c t:Nat) (s:Dg):Option (Nat×Dg) :=
 match bestAll s.a t (c-t) (n-t) with
 | none=>none
 | some (i,k) =>
  if clearOk n c t (swapD t i k s) then
   match spoil (clearD n c t (swapD t i k s)).a t (c-(t+1)) (n-(t+1)) with
   | some j=>some (t,addD t j (clearD n c t (swapD t i k s)))
   | none=>some (t+1,posD t (clearD n c t (swapD t i k s)))
  else some (t,clearD n c t (swapD t i k s))
def bddM (E:Nat) (A:Mx):Bool:=A.all fun l=>l.all fun z=>decide (z.natAbs<2^E)
def bddD (E:Nat) (s:Dg):Bool:=bddM E s.a&&bddM E s.l&&bddM E s.r
def runD (E n c:Nat):Nat→Nat→Dg→Option (Nat×Dg)
 | 0,_,_=>none
 | f+1,t,s=>if bddD E s then match stepD n c t s with
   | none=>some (t,s)
   | some p=>runD E n c f p.1 p.2
  else none
def unitM (n:Nat):Mx:=(List.range n).map fun i=>unitR n i
def startD (M:Mx) (c:Nat):Dg:=⟨M,unitM M.length,unitM c⟩
example:(runD 64 2 2 10 0 (startD [[-3,2],[-1,1]] 2)).map (fun p=>(p.1,p.2.a))=some (2,[[1,0],[0,1]]):=by decide
end Go.Proofs.YtjnpakablgommaaGreatDoor
