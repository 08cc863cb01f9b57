/- Part 23 of the proof of the claim: contracts of the functions that it reaches, and plain laws; no condition. -/
import Derived.Test.YtjnpakablgommaaGreatDoorV22
import Derived.Test.YtjnpakablgommaaGreatDoorV19
import Derived.Test.YtjnpakablgommaaGreatDoorV21
set_option maxRecDepth 100000
namespace Go.Proofs.YtjnpakablgommaaGreatDoor
open Go.RowKit Go.Sort
@[simp] theorem unitM_length (n:Nat):(unitM n).length=n:=by simp [unitM]
theorem unitM_get {n i:Nat} (h:i<(unitM n).length):(unitM n)[i]=unitR n i:=by simp [unitM]
set_option maxHeartbeats 1000000 in
theorem sunit_any {w:World} {n:Nat} (hn:n≤1000000) :
  Calls Tryz.prog 238 #[.int .i64 n] w fun e w' => ∃ v' ad,e = .returned v'∧GrX w.heap.size w' v' (unitM n) ad∧Ext w w':=by
 go_enter Tryz.func238,Tryz.ntmps238
 go_wp2_with fail
 go_loopw [3,7] (fun out idx wr => ∃ (i:Nat) (ad:List (Nat×Nat)),i≤n∧idx = .int .i64 i∧Hid (GrX w.heap.size wr out ((unitM n).take i) ad)∧Ext w wr) (fun _ idx _=>n-(intOf idx).toNat)
 case atStart=>exact ⟨0,[],by omega,by go_num,Lib.hid (GrX.nil _ _),Ext.refl _⟩
 case round =>
  obtain ⟨i,ad,hi',rfl,hV,hE⟩:=hrel
  generalize wr=X at *
  by_cases hlt:i<n
  ·have hii:(i:Int)<(n:Int):=by omega
   have Hsn:=Lib.hid (show (unitM n).take (i+1)=(unitM n).take i++[unitR n i] by rw [take_snocM (by simpa using hlt),unitM_get])
   have Hil:=Lib.hid (show ((unitM n).take i).length=i by rw [List.length_take,unitM_length]; omega)
   have Hlt:=Lib.hid hV.out.lt
   have hXw:=hE.size
   have hrep:=Lib.hid (fun W (hW:W.cell? ⟨X.heap.size,0,none⟩=some (I 0))=>repeat_any (m:=n) hn (b:=X.heap.size) (o:=0) (c:=1) (z:=0) (w:=W) hW)
   go_wp2_with fail
   have hz1:I 0 = .string ⟨#[48]⟩:=by unfold I S; rw [itoa_zero]
   have hz49:I 1 = .string ⟨#[49]⟩:=by unfold I S; rw [show (1:Int)=((1:Nat):Int) from rfl,itoa_nat,Lib.decDigits]; rfl
   have Hz49:=Lib.hid hz49
   refine (hrep.out _ (by rw [hz1]; go_simp)).mono ?_
   rintro e W1 ⟨gy,cy,rfl,hY,hE1⟩
   clear hrep hz1 hz49
   have hE2:=((Ext.refl X).alloc (.cells #[.string ⟨#[48]⟩] 79)).trans hE1
   have hYb:X.heap.size<gy:=by have:=hY.lt.1; simp at this; omega
   have y1:=hY.cell (j:=i) (by simpa using hlt)
   have y2:=hY.frozen i
   obtain ⟨hY3,hG3⟩:=hY.set i (I 1)
   rw [← ss_set,Hz49.out] at hY3
   rw [Hz49.out] at hG3
   have hE3:=ext_trans_grown hE2 hG3 (by omega)
   have HY:=Lib.hid (show OwnV 79 X.heap.size (W1.setCell ⟨gy,i,none⟩ (.string ⟨#[49]⟩)) gy cy (ss (unitR n i)) from hY3.mono (by simp))
   have hYW:=HY.out.lt
   clear hY hY3 hG3 hE1 hE2 Hz49
   have hnl:(unitR n i).length=n:=by simp [unitR]
   have Hnl:=Lib.hid hnl
   have Hne:=Lib.hid (show 0<(unitR n i).length → ∀ k (h:k<ad.length) (h':k<((unitM n).take i).length),0<((unitM n).take i)[k].length→ad[k].1≠gy from fun h k a b c=>by
    have h2:=(Hlt.out k a b c).2
    omega)
   clear hnl
   have hsz:=hE3.size
   go_wp2_with (at_builtin; refine app_grid rfl _ _ rfl (B:=w.heap.size) rfl ((hV.out.ext hE3).ext ((Ext.refl _).alloc _)) rfl (b:=W1.heap.size) (r:=unitR n i) (g0:=gy) (c0:=cy) (by rw [Hnl.out,xv_pos (by omega)]; go_simp) (fun h=>(HY.out.mono hXw).ext ((Ext.refl _).alloc _)) Hne.out (by rw [Hil.out]; omega) (by simp; have:=hE3.size; simp at this; omega) ?_; intro gg cap2 w8 hO8 hB8 hG8; rw [Hil.out, ← Hsn.out] at hO8; rw [Hil.out])
   have hE8:Ext w w8:=Below.trans ((hE.trans hE3).alloc (.cells #[slv gy n cy] 144)) hB8
   have HO8:=Lib.hid hO8
   clear hG8 hB8 hO8
   go_wp2_with fail
   go_roundw
   case rel=>exact ⟨i+1,_,by omega,by go_num,HO8,hE8⟩
   case measure=>simp [intOf] <;> omega
  ·have hie:i=n:=by omega
   subst hie
   go_wp2_with fail
   go_ret
   have:=hV.out
   rw [List.take_of_length_le (by simp)] at this
   exact ⟨_,ad,rfl,this,hE⟩
def SmaPost (w:World) (M:Mx) (e:Ending) (w':World):Prop :=
 (if smallM M then ∃ v,e = .returned (.tuple #[v,.int .i64 0])∧MatO w.heap.size w' v M else e = .returned (.tuple #[.slice none 0 0,.int .i64 4]))∧Ext w w'
set_option maxHeartbeats 1000000 in
theorem ssmall_any {w : World} {v : Value} {M : Mx} (hM : GridR w v M) (hl : M.length ≤ 1000000) (hn : ∀ r ∈ M, r.length ≤ 1000000) (hb : ∀ r ∈ M, ∀ z ∈ r, nd z ≤ LIM) (hL : Laid w) :
    Calls Tryz.prog 190 #[v] w (SmaPost w M):=by
  obtain ⟨sa,gb,go,cap,vs,rfl,hcap,hvl,hS,hr⟩:=hM
  have HS:=Lib.hid hS
  have HV:=Lib.hid hvl
  have HR:=Lib.hid hr
  have HN:=Lib.hid hn
  have HB:=Lib.hid hb
  have HL:=Lib.hid hL
  clear hS hvl hr hn hb hL
  go_enter Tryz.func190,Tryz.ntmps190
  go_wp2_with fail
  go_loopw [4,14] (fun out idx wr => ∃ i:Nat,i≤M.length∧idx = .int .i64 i∧Hid (MatO w.heap.size wr out (M.take i))∧Hid (∀ j (h:j<M.length),j<i→smallB M[j]=true)∧Ext w wr) (fun _ idx _=>M.length-(intOf idx).toNat)
  case atStart=>exact ⟨0,by omega,by go_num,Lib.hid (MatO.nil _ _),Lib.hid (fun j _ h=>by omega),Ext.refl _⟩
  case round =>
    obtain ⟨i,hi',rfl,hV,Hs,hE⟩:=hrel
    generalize wr=X at *
    by_cases hlt:i<M.length
    · have hii:(i:Int)<(M.length:Int):=by omega
      obtain rfl:=HS.out.addr (by rw [HV.out]; omega)
      obtain ⟨sr,br,or,cr,hrow,hrc,hSr⟩:=GridR.row HS.out HV.out HR.out hlt
      obtain ⟨r,hr⟩ : ∃ r,r=M[i]:=⟨_,rfl⟩
      have Hrb:=Lib.hid (HB.out _ (List.getElem_mem hlt))
      have hrn:=HN.out _ (List.getElem_mem hlt)
      have Hsn:=Lib.hid (take_snocM hlt)
      have Hri:=Lib.hid hr
      rw [← hr] at hrow hrc hSr Hrb hrn Hsn
      have hrow':=hE.cell hrow
      have HSr:=Lib.hid (hSr.ext hE)
      have Hil:=Lib.hid (show (M.take i).length=i by rw [List.length_take]; omega)
      have hXw:=hE.size
      have hE0:=(Ext.refl X).alloc (.cells #[] 3)
      have HO0:=Lib.hid (row_empty (heap_new X (.cells #[] 3)) (Nat.le_refl X.heap.size))
      clear hrow hSr hr
      go_wp2_with fail
      go_loopw [7,21] (fun lv jdx wr => ∃ j:Nat,j≤r.length∧jdx = .int .i64 j∧Hid (RowV X.heap.size wr lv (r.take j))∧Hid (∀ t (h:t<r.length),t<j→grt r[t]=false)∧Ext X wr) (fun _ jdx _=>r.length-(intOf jdx).toNat)
      case atStart=>exact ⟨0,by omega,by go_num,HO0,Lib.hid (fun j _ h=>by omega),hE0⟩
      case round =>
        clear HO0 hE0
        obtain ⟨j,hj,rfl,hO,Hz,hE2⟩:=hrel
        generalize wr=Y at *
        by_cases hjl:j<r.length
        · have hji:(j:Int)<(r.length:Int):=by omega
          obtain ⟨z,hz⟩ : ∃ z,z=r[j]:=⟨_,rfl⟩
          have hcz:=hE2.cell (HSr.out.cell j (I z) (by rw [hz]; simp [ss,hjl]))
          obtain rfl:=HSr.out.addr (by simp; omega)
          have hsm:=Lib.hid (wholeSmall_any (z:=z) (w:=Y) (Hrb.out z (by rw [hz]; exact List.getElem_mem hjl)) (HL.out.ext (hE.trans hE2)))
          have Hjl:=Lib.hid (show (r.take j).length=j by rw [List.length_take]; omega)
          have Hsj:=Lib.hid (show r.take (j+1)=r.take j++[z] by rw [List.take_succ_eq_append_getElem hjl,hz])
          have Hzz:=Lib.hid hz
          have hXY:=hE2.size
          cases hgz:grt z
          · have hzb : -1000000000 ≤ z ∧ z ≤ 1000000000 := by
              unfold grt at hgz; have:=of_decide_eq_false hgz; omega
            have hin:inI64 z=true:=decide_eq_true (by omega)
            rw [hin,if_pos rfl] at hsm
            obtain ⟨hy1,hy2⟩:=hzb
            have Hgz:=Lib.hid hgz
            clear hin hgz hz
            go_wp2_with (first
              | (go_at_call 78; refine hsm.out.mono ?_; rintro e W ⟨rfl,hW⟩; have hYW:=hW.size)
              | (at_builtin; refine app_int rfl _ _ 30 Tryz.underlying30 rfl rfl ((hO.out.ext hW).ext ((Ext.refl _).alloc _)) rfl (b:=W.heap.size) (z:=z) (by go_simp) (by rw [Hjl.out]; omega) (by simp; omega) ?_; intro gg cap2 w8 hO8 hB8 hG8; rw [Hjl.out] at hO8 ⊢; rw [← Hsj.out] at hO8))
            have hE8:Ext X w8:=Below.trans ((hE2.trans hW).alloc (.cells #[.int .i64 z] 3)) hB8
            have HO8:=Lib.hid hO8
            clear hG8 hB8 hO8
            go_wp2_with fail
            go_roundw
            case rel=>exact ⟨j+1,by omega,by go_num,HO8,Lib.hid (fun t h ht=>by
              by_cases e:t=j
              · subst e; rw [← Hzz.out]; exact Hgz.out
              · exact Hz.out t h (by omega)),hE8⟩
            case measure=>simp [intOf] <;> omega
          · have Hno:=Lib.hid (smallM_not hlt (by rw [← Hri.out]; exact small_not hjl (by rw [← hz]; exact hgz)))
            have hzb:1000000000<z∨z < -1000000000:=by
              unfold grt at hgz; exact of_decide_eq_true hgz
            clear hgz hz
            have hfin : ∀ W,Ext w W→SmaPost w M (.returned (.tuple #[.slice none 0 0,.int .i64 4])) W:=fun W hW=>by
              unfold SmaPost; rw [if_neg (by rw [Hno.out]; decide)]; exact ⟨rfl,hW⟩
            have Hfin:=Lib.hid hfin
            clear hfin
            cases hin:inI64 z
            · rw [hin,if_neg (by decide)] at hsm
              clear hin hzb
              go_wp2_with (first
                | (go_at_call 78; refine hsm.out.mono ?_; rintro e W ⟨rfl,hW⟩))
              go_ret2
              exact Hfin.out _ ((hE.trans hE2).trans hW)
            · rw [hin,if_pos rfl] at hsm
              clear hin
              rcases hzb with hzb | hzb
              · go_wp2_with (first
                  | (go_at_call 78; refine hsm.out.mono ?_; rintro e W ⟨rfl,hW⟩))
                go_ret2
                exact Hfin.out _ ((hE.trans hE2).trans hW)
              · have hzc:z≤1000000000:=by omega
                go_wp2_with (first
                  | (go_at_call 78; refine hsm.out.mono ?_; rintro e W ⟨rfl,hW⟩))
                go_ret2
                exact Hfin.out _ ((hE.trans hE2).trans hW)
        · have hje:j=r.length:=by omega
          have htk:r.take j=r:=List.take_of_length_le (by omega)
          rw [htk] at hO
          have Hsb:=Lib.hid (small_yes (l:=r) (fun t ht=>Hz.out t ht (by omega)))
          obtain ⟨xa,xl,xk,hxv⟩ : ∃ xa xl xk,u7 = .slice xa xl xk:=by
            rcases hO.out.2 with ⟨rfl,h1⟩ | ⟨g,cap,cur,rfl,hb,hg,hn,hm,hs,ht⟩
            · exact ⟨_,_,_,rfl⟩
            · exact ⟨_,_,_,rfl⟩
          subst hxv
          have hXY:=hE2.size
          clear htk Hz
          go_wp2_with (at_builtin; refine app_mat rfl _ _ rfl (B:=w.heap.size) rfl ((hV.out.ext hE2).ext ((Ext.refl _).alloc _)) rfl (b:=Y.heap.size) (rv := .slice xa xl xk) (r:=r) (by go_simp) ((hO.out.mono hXw).ext ((Ext.refl _).alloc _)) (by rw [Hil.out]; omega) (by simp; omega) ?_; intro gg cap2 w8 hO8 hB8 hG8; rw [Hil.out, ← Hsn.out] at hO8; rw [Hil.out])
          have hE8:Ext w w8:=Below.trans ((hE.trans hE2).alloc (.cells #[.slice xa xl xk] 30)) hB8
          have HO8:=Lib.hid hO8
          clear hG8 hB8 hO8
          go_wp2_with fail
          go_roundw
          case rel=>exact ⟨i+1,by omega,by go_num,HO8,Lib.hid (fun t h ht=>by
            by_cases e:t=i
            · subst e; rw [← Hri.out]; exact Hsb.out
            · exact Hs.out t h (by omega)),hE8⟩
          case measure=>simp [intOf] <;> omega
    · have hie:i=M.length:=by omega
      subst hie
      go_wp2_with fail
      go_ret2
      have hsm:smallM M=true:=smallM_yes (fun j hj=>Hs.out j hj hj)
      refine ⟨?_,hE⟩
      rw [if_pos hsm]
      have:=hV.out
      rw [List.take_length] at this
      exact ⟨_,rfl,this⟩
theorem GrX.put {B:Nat} {w w6:World} {g cap i gx cx:Nat} {F:Mx} {ad:List (Nat×Nat)} {r:List Int} {R:Nat→Prop} (h:GrX B w (slv g F.length cap) F ad) (hi:i<F.length) (hr0:0<r.length) (hO:OwnV 79 B w6 gx cx (ss r)) (hC:Chg R w w6) (hRg : ¬ R g)
  (hR : ∀ j (_:j<ad.length) (h:j<F.length),0<F[j].length→j≠i → ¬ R ad[j].1) (hne : ∀ j (_:j<ad.length) (h:j<F.length),0<F[j].length→j≠i→ad[j].1≠gx) :
  GrX B (w6.setCell ⟨g,i,none⟩ (slv gx r.length cx)) (slv g F.length cap) (F.set i r) (ad.set i (gx,cx))∧w6.grownBy (w6.setCell ⟨g,i,none⟩ (slv gx r.length cx)) (some g):=by
 have hi':i<ad.length:=by rw [h.len]; exact hi
 have h1:=(hC.own hRg h.outer).set i (slv gx r.length cx)
 have hOg:=ne_outer (hC.own hRg h.outer) hO
 refine ⟨⟨by simp [h.len],?_,fun j hj hj' hj0 => ?_,fun j k hj hk hj2 hk2 hj0 hk0 hjk => ?_⟩,h1.2⟩
 ·have:=h1.1
  unfold OwnV at this
  rw [show slv gx r.length cx=xv r.length (gx,cx).1 (gx,cx).2 from (xv_pos hr0 _ _).symm, ← hdV_set,hdV_length _ _ (by simp [h.len]),List.length_set] at this
  rw [List.length_set,show slv gx r.length cx=xv r.length (gx,cx).1 (gx,cx).2 from (xv_pos hr0 _ _).symm]; exact this
 ·rw [List.length_set] at hj hj'
  by_cases hij:i=j
  ·subst hij; simp only [List.getElem_set_self]; exact hO.other h1.2 hOg
  ·simp only [List.getElem_set_ne hij] at hj0 ⊢
   have hOj:=h.row j hj hj' hj0
   exact (hC.own (hR j hj' hj hj0 (Ne.symm hij)) hOj).other h1.2 (ne_outer h.outer hOj)
 ·rw [List.length_set] at hj hk hj2 hk2
  by_cases hij:i=j
  ·subst hij
   simp only [List.getElem_set_ne hjk] at hk0
   simp only [List.getElem_set_self,List.getElem_set_ne hjk]
   exact Ne.symm (hne k hk hk2 hk0 (Ne.symm hjk))
  ·simp only [List.getElem_set_ne hij] at hj0 ⊢
   by_cases hik:i=k
   ·subst hik
    simp only [List.getElem_set_self]
    exact hne j hj hj2 hj0 hjk
   ·simp only [List.getElem_set_ne hik] at hk0 ⊢
    exact h.dis j k hj hk hj2 hk2 hj0 hk0 hjk
theorem GrX.hd {B:Nat} {w:World} {g cap i:Nat} {F:Mx} {ad:List (Nat×Nat)} (h:GrX B w (slv g F.length cap) F ad) (hi:i<F.length) :
  ∃ gx cx,ad[i]? = some (gx,cx)∧w.cell? ⟨g,i,none⟩=some (xv (F.getD i []).length gx cx)∧IntsV B w (xv (F.getD i []).length gx cx) (F.getD i [])∧(0<(F.getD i []).length→gx≠g):=by
 have hi':i<ad.length:=by rw [h.len]; exact hi
 have hg:=hdV_get ad F i hi' hi
 obtain ⟨hlt,he⟩:=List.getElem?_eq_some_iff.1 hg
 refine ⟨ad[i].1,ad[i].2,by rw [List.getElem?_eq_getElem hi'],?_,?_,fun h0 => ?_⟩
 ·rw [h.outer.cell (j:=i) hlt,he,getD_get hi]
 ·rw [getD_get hi]
  rcases Nat.eq_zero_or_pos F[i].length with e | e
  ·have:F[i]=[]:=List.eq_nil_of_length_eq_zero e
   rw [this]; exact IntsV.nil _ _
  ·rw [xv_pos e]; exact (h.row i hi hi' e).ints
 ·rw [getD_get hi] at h0; exact ne_outer h.outer (h.row i hi hi' h0)
def wideTo (i:Nat) (M:Mx):Mx:=M.mapIdx fun j r=>if j<i then r++unitR M.length j else r
@[simp] theorem wideTo_length (i:Nat) (M:Mx):(wideTo i M).length=M.length:=by simp [wideTo]
theorem wideTo_get {i:Nat} {M:Mx} {j:Nat} (h:j<M.length):(wideTo i M)[j]'(by simpa using h)=if j<i then M[j]++unitR M.length j else M[j]:=by simp [wideTo]
theorem wideTo_zero (M:Mx):wideTo 0 M=M:=List.ext_getElem (by simp) fun j h1 h2=>by rw [wideTo_get h2,if_neg (by omega)]
theorem wideTo_all (M:Mx):wideTo M.length M=wideM M:=List.ext_getElem (by simp) fun j h1 h2=>by
 have hj:j<M.length:=by simpa using h1
 rw [wideTo_get hj,if_pos hj,wideM_get hj]
theorem wideTo_step {i:Nat} {M:Mx} (h:i<M.length):wideTo (i+1) M=(wideTo i M).set i (M[i]++unitR M.length i):=by
 refine List.ext_getElem (by simp) fun j h1 h2 => ?_
 have hj:j<M.length:=by simpa using h1
 rw [wideTo_get hj]
 by_cases e:i=j
 ·subst e; rw [List.getElem_set_self,if_pos (by omega)]
 ·rw [List.getElem_set_ne e,wideTo_get hj]
  by_cases h2:j<i
  ·rw [if_pos h2,if_pos (by omega)]
  ·rw [if_neg h2,if_neg (by omega)]
theorem wideTo_at {i:Nat} {M:Mx} (h:i<M.length):(wideTo i M).getD i []=M[i]:=by
 rw [getD_get (by simpa using h),wideTo_get h,if_neg (by omega)]
theorem ss_append (a b:List Int):ss (a++b)=ss a++ss b:=by simp [ss]
theorem Gr.gridTake {B:Nat} {w:World} {g cap N n d:Nat} {ad:List (Nat×Nat)} {ls:List Ln} (h:Gr B w g cap N n ad ls) (hn:0<n) (hd:d≤N) (hcap:d≤cap):GridR w (slv g d cap) (fRows d ls):=by
 have hl:(fRows d ls).length=d:=fRows_length (by rw [h.len]; exact hd)
 have hO:=h.grl.outer
 have hal:ad.length=N:=by rw [h.grl.len,rowsL_length,h.len]
 refine ⟨_,g,0,cap,(hdV ad (rowsL ls)).take d,by rw [hl],by rw [hl]; exact hcap,by rw [hl,List.length_take,hdV_length _ _ h.grl.len,rowsL_length,h.len]; omega,hO.sl.take d,fun i hi hi' => ?_⟩
 rw [hl] at hi
 have hir:i<(rowsL ls).length:=by rw [rowsL_length,h.len]; omega
 have hg:=hdV_get ad (rowsL ls) i (by omega) hir
 obtain ⟨_,he⟩:=List.getElem?_eq_some_iff.1 hg
 rw [List.getElem_take,he]
 have hrl:(rowsL ls)[i].length=n:=h.rect _ (List.getElem_mem hir)
 have hrow:=h.gr.row i hir (by omega) (by omega)
 have hf:(fRows d ls)[i]'(by rw [hl]; exact hi)=(rowsL ls)[i]:=by
  rw [fRows_get hi (by rw [h.len]; exact hd), ← rowsL_getD,getD_get hir]
 rw [hf,xv_pos (by omega)]
 exact hrow.intsR rfl
def WdPost (w:World) (M:Mx) (c:Nat) (e:Ending) (w':World):Prop :=
 ∃ g cap H,e = .returned (.tuple #[slv g H.length cap,.int .i64 c])∧HnfOf (c+M.length) (wideM M) H∧H.length≤M.length∧GridR w' (slv g H.length cap) H∧(∀ r∈H,∀ z∈r,z.natAbs<2^bC M.length 30 (c+M.length))∧Ext w w'
theorem wide_all {M:Mx} (h : ∀ r∈M,∀ z∈r,-1000000000≤z∧z≤1000000000):AllL 30 (ln1 (wideM M)):=by
 intro i hi
 have hi':i<M.length:=by simpa using hi
 rw [getD_get hi]
 have e:(ln1 (wideM M))[i]=((wideM M)[i]'(by simpa using hi'),[]):=by simp [ln1]
 rw [e,wideM_get hi']
 constructor
 ·intro z hz
  show z.natAbs<2^30
  have e:(2:Nat)^30=1073741824:=by decide
  rw [e]
  rcases List.mem_append.1 hz with hz | hz
  ·have:=h _ (List.getElem_mem hi') z hz; omega
  ·unfold unitR at hz
   rcases List.mem_or_eq_of_mem_set hz with hz | hz
   ·have:=(List.mem_replicate.1 hz).2; omega
   ·omega
 ·intro z hz; cases hz
set_option maxHeartbeats 1000000 in
theorem wide_any {w:World} {v:Value} {M:Mx} {c:Nat} (hM:MatR w v M) (hR:Rect c M) (h0:0<M.length) (hl:M.length≤1000) (hc:c≤1000) (hent : ∀ r∈M,∀ z∈r,-1000000000≤z∧z≤1000000000)
  (hk:2*(2*bC M.length 30 (c+M.length)+2)+2<LIM) (hL:Laid w):Calls Tryz.prog 184 #[v] w (WdPost w M c):=by
 obtain ⟨sa,gb,go,cp,vs,hv,hcp,hvl,hS,hr⟩:=id hM
 obtain ⟨sr,br,or,cr,hrow,_,_⟩:=MatR.row hS hvl hr h0
 have hrc:M[0].length=c:=hR _ (List.getElem_mem h0)
 rw [hrc,Nat.add_zero] at hrow
 have hbig:=Lib.hid (sbig_any (w:=w) hM (by omega) (fun r hr=>by rw [hR r hr]; omega) (fun r hr z hz=>by have:=hent r hr z hz; unfold I64; omega) hL)
 obtain ⟨s0,hs,hy0,hy1,hy2⟩:=info_parts Tryz.infoStr
 subst hv
 obtain rfl:=hS.addr (by omega)
 have HR:=Lib.hid hR
 have Hent:=Lib.hid hent
 have HK:=Lib.hid hk
 have HL:=Lib.hid hL
 obtain ⟨N,hN⟩ : ∃ N,N=M.length:=⟨_,rfl⟩
 have hun:=Lib.hid (fun W=>sunit_any (w:=W) (n:=N) (by omega))
 have HN:=Lib.hid hN
 have hN0:(N==0)=false:=beq_eq_false_iff_ne.2 (by omega)
 have hN1:((N:Int)==0)=false:=beq_eq_false_iff_ne.2 (by omega)
 have hN2:0<N:=by omega
 have hN3:N≤1000:=by omega
 rw [← hN] at hbig ⊢
 clear hM hR hent hk hL hvl hS hr hrc hN
 go_enter Tryz.func184,Tryz.ntmps184
 go_wp2_with fail
 refine hbig.out.mono ?_
 rintro e w1 ⟨v1,ad1,rfl,hG1,hE1⟩
 go_wp2_with fail
 refine (hun.out w1).mono ?_
 rintro e w2 ⟨v2,ad2,rfl,hG2,hE2⟩
 obtain ⟨ga1,cap1,rfl,hcap1,hs1⟩:=hG1.shape
 obtain ⟨g1,rfl⟩:=hs1 (by rw [← HN.out]; exact hN2)
 obtain ⟨ga2,cap2,rfl,hcap2,hs2⟩:=hG2.shape
 obtain ⟨g2,rfl⟩:=hs2 (by rw [unitM_length]; exact hN2)
 rw [← HN.out] at hcap1 ⊢
 rw [unitM_length] at hcap2 ⊢
 have HG1:=Lib.hid hG1
 have HG2:=Lib.hid hG2
 have hb1:=hG1.outer.lt
 have hb2:=hG2.outer.lt
 have hsz1:=hE1.size
 have hsz2:=hE2.size
 have hE12:=hE1.trans hE2
 clear hG1 hG2 hbig hun
 go_wp2_with fail
 go_loopw [21] (fun idx wr => ∃ (i:Nat) (ad3:List (Nat×Nat)),i≤N∧idx = .int .i64 i∧Hid (GrX w.heap.size wr (slv g1 (wideTo i M).length cap1) (wideTo i M) ad3)∧Hid (∀ j,i≤j→ad3[j]? = ad1[j]?)∧Hid (Chg (fun k=>w.heap.size≤k∧k<w1.heap.size) w2 wr)) (fun idx _=>N-(intOf idx).toNat)
 case atStart=>exact ⟨0,ad1,by omega,by go_num,Lib.hid (by rw [wideTo_zero]; exact HG1.out.ext hE2),Lib.hid (fun j _=>rfl),Lib.hid (Chg.refl _ _)⟩
 case round =>
  obtain ⟨i,ad3,hi,rfl,hG,ha,hC⟩:=hrel
  generalize wr=X at *
  have hEX:Ext w X:=hC.out.ext hE12 (fun k hk=>hk.1)
  by_cases hlt:i<N
  ·have hii:(i:Int)<(N:Int):=by omega
   have hiM:i<M.length:=by rw [← HN.out]; exact hlt
   obtain ⟨gx,cx,ead,c1,hI,hgx⟩:=hG.out.hd (i:=i) (by rw [wideTo_length]; exact hiM)
   rw [wideTo_at hiM] at c1 hI hgx
   obtain ⟨gu,cu,eadu,cu1,hIu,hgu⟩:=HG2.out.hd (i:=i) (by rw [unitM_length]; exact hlt)
   have hur:(unitM N).getD i []=unitR N i:=by rw [getD_get (by simpa using hlt),unitM_get]
   have hul:(unitR N i).length=N:=by simp [unitR]
   rw [hur,hul,xv_pos hN2] at cu1 hIu
   have hou:OwnV 79 w1.heap.size w2 gu cu (ss (unitR N i)):=by
    unfold IntsV at hIu; unfold OwnV; rw [ss_length,hul]; rw [hul] at hIu; exact hIu
   have hgul:=hou.lt
   have hcu:=hC.out.cell (by omega) cu1
   have hou2:=Lib.hid (hC.out.own (by omega) hou)
   obtain ⟨r,hr⟩ : ∃ r,r=M[i]:=⟨_,rfl⟩
   have hrl:r.length=c:=by rw [hr]; exact HR.out _ (List.getElem_mem hiM)
   have Hstep:=Lib.hid (wideTo_step hiM)
   rw [← hr] at c1 hI hgx Hstep
   rw [← HN.out] at Hstep
   have hgx1:0<r.length→w.heap.size≤gx∧gx<w1.heap.size:=fun h=>by
    have h2:=HG1.out.hd (i:=i) hiM
    obtain ⟨gy,cy,eady,_,hIy,_⟩:=h2
    have:=ha.out i (Nat.le_refl _)
    rw [ead,eady] at this
    injection this with this
    injection this with e1 e2
    rw [← e1] at hIy
    rw [getD_get hiM, ← hr,xv_pos h] at hIy
    exact World.ownsRow.lt hIy gx rfl
   obtain ⟨xa,xl,xk,hxv⟩:=xv_slice r.length gx cx
   have hob : ∀ q,(xv r.length gx cx).ownBlock=some q→w.heap.size≤q∧q<w1.heap.size:=fun q hq=>by
    rw [xv_own] at hq
    split at hq
    ·cases hq
    ·injection hq with hq; subst hq; exact hgx1 (by omega)
   have Hob:=Lib.hid hob
   have HI:=Lib.hid hI
   have Hrl:=Lib.hid hrl
   have fz:=hG.out.outer.frozen i
   have Hgx:=Lib.hid hgx
   have Ead:=Lib.hid ead
   have Hxv:=Lib.hid hxv
   rw [hxv] at c1
   have hXw:=hEX.size
   have hX2:=hC.out.size
   clear hr hrl hI hgx eadu hIu hgu hur hul hou cu1 hob hgx1 ead hxv
   have HNews:=Lib.hid (show ∀ (j:Nat) (u:Value),(ss (unitR N i))[j]? = some u→X.drew.cell? ((⟨gu,0,none⟩:Addr).add j)=some u from fun j u hj=>by
    have h2:=hou2.out.sl.cell j u hj
    simpa [Addr.add_lit] using h2)
   have HOne:=Lib.hid (show ∀ u∈ss (unitR N i),u.oneCell'=true from fun u hu=>by
    obtain ⟨y,_,rfl⟩:=List.mem_map.1 hu
    rfl)
   have HTo:=Lib.hid (show some g1≠(xv r.length gx cx).ownBlock by
    rw [xv_own]
    split
    ·simp
    ·intro e; injection e with e; exact Hgx.out (by omega) e.symm)
   have Hgl:=Lib.hid (show g1<X.heap.size by omega)
   have Hrn:=Lib.hid (show r.length+N≤2000 by rw [Hrl.out]; omega)
   have Hun:=Lib.hid (show (ss (unitR N i)).length=N*1 by rw [ss_length]; simp [unitR])
   have hcap1':(i:Int)<(cap1:Int):=by omega
   go_wp2_with fail
   go_region_law (refine step_append_lies _ (by rfl) _ _ _ (by rfl) w.heap.size 79 s0 _ 1 16 Tryz.underlying144 hs hy0 hy1 hy2 rfl (by omega) (xv r.length gx cx) r.length (ss r) (by rw [Hxv.out]; rfl) (ownsRow_ext HI.out ((Ext.refl _).drew)) ⟨gu,0,none⟩ N cu (ss (unitR N i)) (by rfl) Hun.out HNews.out HOne.out hN2 (by have:=Hrn.out; unfold maxLen; omega) (by have:=Hrn.out; omega) hXw X.heap.size (by simp) ?_; intro gg cap6 w6 hown6 hgrow6 hat6 hlt6; have t6:=hgrow6.cell (((Ext.refl X).drew).cell c1) HTo.out; have f6:w6.frozen? ⟨g1,i,none⟩=false:=(hgrow6.frozen_far ⟨g1,i,none⟩ Hgl.out HTo.out).trans fz)
   all_goals
    have hrn:(r++unitR N i).length=r.length+N:=by rw [List.length_append]; simp [unitR]
    have hO6:OwnV 79 w.heap.size w6 gg cap6 (ss (r++unitR N i)):=by
     unfold OwnV; rw [ss_append,List.length_append,ss_length,ss_length,show (unitR N i).length=N by simp [unitR]]; exact hown6
    have hC6:Chg (fun k=>(xv r.length gx cx).ownBlock=some k) X w6:=by
     have h1:=Chg.of_ext (R:=fun k=>(xv r.length gx cx).ownBlock=some k) ((Ext.refl X).drew)
     refine h1.trans ⟨hgrow6.os,hgrow6.tape,hgrow6.output,hgrow6.size,fun k hk hn=>hgrow6.block k hk (fun e=>hn e.symm)⟩
    have hal:ad3.length=(wideTo i M).length:=hG.out.len
    have hgi : ∀ j (hj:j<ad3.length) (h:j<(wideTo i M).length),0<(wideTo i M)[j].length→j≠i→(xv r.length gx cx).ownBlock≠some ad3[j].1∧ad3[j].1≠gg:=fun j hj h hj0 hji=>by
     have h1:(xv r.length gx cx).ownBlock≠some ad3[j].1:=by
      rw [xv_own]
      split
      ·simp
      ·intro e
       injection e with e
       have hia:i<ad3.length:=by rw [hal,wideTo_length]; exact hiM
       have hiw:i<(wideTo i M).length:=by rw [wideTo_length]; exact hiM
       have ei:=Ead.out
       rw [List.getElem?_eq_getElem hia] at ei
       have ei2:=Option.some.inj ei
       have hl0:0<(wideTo i M)[i].length:=by
        have:=wideTo_at hiM
        rw [getD_get hiw] at this
        have h5:M[i].length=c:=HR.out _ (List.getElem_mem hiM)
        rw [this,h5, ← Hrl.out]; omega
       have:=hG.out.dis j i hj hia h hiw hj0 hl0 hji
       rw [ei2] at this
       exact this e.symm
     refine ⟨h1,fun e => ?_⟩
     rcases hat6 with h2 | h2
     ·rw [e] at h1; exact h1 h2
     ·have:=(hG.out.lt j hj h hj0).2; omega
    have hput:=hG.out.put (i:=i) (r:=r++unitR N i) (by rw [wideTo_length]; exact hiM) (by omega) hO6 hC6 (fun e=>HTo.out e.symm) (fun j hj h hj0 hji=>(hgi j hj h hj0 hji).1) (fun j hj h hj0 hji=>(hgi j hj h hj0 hji).2)
    rw [hrn] at hput
    have hCn:Chg (fun k=>w.heap.size≤k∧k<w1.heap.size) w2 (w6.setCell ⟨g1,i,none⟩ (slv gg (r.length+N) cap6)) :=
     (hC.out.trans (hC6.mono (fun k _ hk=>Hob.out k hk))).trans (Chg.of_grown hput.2 ⟨hb1.1,hb1.2⟩)
    have hG7:=Lib.hid (show GrX w.heap.size (w6.setCell ⟨g1,i,none⟩ (slv gg (r.length+N) cap6)) (slv g1 (wideTo (i+1) M).length cap1) (wideTo (i+1) M) (ad3.set i (gg,cap6)) by
     rw [Hstep.out,List.length_set]; exact hput.1)
    have hC7:=Lib.hid hCn
    generalize hw7:World.setCell w6 _ _=w7 at *
    clear hw7 hown6 hgrow6 hat6 t6 f6 hlt6 hrn hO6 hC6 hal hgi hput hCn
    go_wp2_with fail
    go_roundw
    case rel=>exact ⟨i+1,_,by omega,by go_num,hG7,Lib.hid (fun j hj=>by rw [List.getElem?_set_ne (by omega)]; exact ha.out j (by omega)),hC7⟩
    case measure=>simp [intOf] <;> omega
  ·have hie:i=N:=by omega
   have hii : ¬ (i:Int)<(N:Int):=by omega
   have hG5:=hG.out
   have hwl:(wideTo i M).length=N:=by rw [wideTo_length,HN.out]
   rw [hwl] at hG5
   rw [show wideTo i M=rowsL (ln1 (wideM M)) by rw [hie,HN.out,wideTo_all,rowsL_ln1]] at hG5
   have hGr:Gr w.heap.size X g1 cap1 N (c+N) ad3 (ln1 (wideM M)):=⟨hG5,by rw [ln1_length,wideM_length,HN.out],ln1_dim (by have:=wideM_rect HR.out; rw [← HN.out] at this; exact this)⟩
   have hkN:=HK.out
   rw [← HN.out] at hkN
   have hher:=Lib.hid (hermitian_any hGr hN2 (by omega) (by omega) (by omega) hcap1 (wide_all Hent.out) hkN HL.out hEX)
   have hcN:((c+N:Nat):Int)=(c:Int)+(N:Int):=by omega
   rw [hcN] at hher
   clear hG5 hGr hkN hwl hcN hie
   go_wp2_with fail
   refine hher.out.mono ?_
   rintro e X2 ⟨d,ps,ad4,ls4,rfl,hdN,hG8,hF,hO,hA,hE8⟩
   have Hres:=Lib.hid (show WdPost w M c (.returned (.tuple #[slv g1 d cap1,.int .i64 c])) X2 by
    have hl:(fRows d ls4).length=d:=fRows_length (by rw [hG8.len]; exact hdN)
    have hfo:=form_of1 (M:=wideM M) (n:=c+N) (by have:=wideM_rect HR.out; rw [← HN.out] at this; exact this) hO hF
    rw [HN.out] at hfo
    refine ⟨g1,cap1,fRows d ls4,by rw [hl],hfo,by rw [hl, ← HN.out]; exact hdN,by rw [hl]; exact hG8.gridTake (by omega) hdN (by omega),fun r hr z hz => ?_,hE8⟩
    obtain ⟨t,ht,rfl⟩:=List.getElem_of_mem hr
    rw [hl] at ht
    rw [fRows_get ht (by rw [hG8.len]; exact hdN)] at hz
    have:=(hA t (by rw [hG8.len]; omega)).1 z hz
    rw [← HN.out]; exact this)
   clear hher hG8 hF hO hA
   go_wp2_with fail
   go_ret2
   exact Hres.out
def RdO (B:Nat) (w0 w:World) (v:Value) (F:Mx):Prop := ∃ vs,vs.length=F.length∧w.ownsRow B 144 1 v F.length vs ∧ ∀ t (_:t<F.length) (h':t<vs.length),IntsR w0 vs[t] F[t]
theorem RdO.nil (B:Nat) (w0 w:World):RdO B w0 w (.slice none 0 0) []:=⟨[],rfl,⟨rfl,.inl ⟨rfl,rfl⟩⟩,fun t h=>by simp at h⟩
theorem RdO.ext {B:Nat} {w0 w w':World} {v:Value} {F:Mx} (h:RdO B w0 w v F) (he:Ext w w'):RdO B w0 w' v F:=by
 obtain ⟨vs,h1,h2,h3⟩:=h
 exact ⟨vs,h1,ownsRow_ext h2 he,h3⟩
theorem RdO.grid {B:Nat} {w0 w:World} {v:Value} {F:Mx} (h:RdO B w0 w v F) (he:Ext w0 w):GridR w v F:=by
 obtain ⟨vs,h1,h2,h3⟩:=h
 rcases h2.2 with ⟨rfl,h0⟩ | ⟨g,cap,cur,rfl,hb,hg,hn,hm,hs,ht⟩
 ·have hF:F=[]:=List.eq_nil_of_length_eq_zero h0
  subst hF
  exact ⟨none,0,0,0,[],rfl,Nat.le_refl _,rfl,Sl.nil _ _ _ _,fun i h=>by simp at h⟩
 ·have hO:OwnV 144 B w g cap vs:=by unfold OwnV; rw [h1]; exact h2
  exact ⟨_,g,0,cap,vs,rfl,hn,h1,hO.sl,fun i a b=>(h3 i a b).ext he⟩
section
variable {w:World} {ops:Array Oper} {rest:List Oper} {o:Oper} {a:Act} {Q:Exit→Act→World→Prop}
theorem app_rd (hgd:o.guard=none) (s x:Operand) (ho:o.op = .call { callee := .builtin .append,args := #[s,x],argTypes := #[250,250] })
  {B:Nat} {w0:World} {v rv:Value} {F:Mx} {r:List Int} (hs:a.eval s=v) (hown:RdO B w0 w v F) {b:Nat} (hx:a.eval x = .slice (some ⟨b,0,none⟩) 1 1) (hc:w.cell? ⟨b,0,none⟩=some rv) (hr:IntsR w0 rv r) (hl:F.length≤1000000000) (hB:B≤w.heap.size)
  (h : ∀ g cap w',RdO B w0 w' (slv g (F.length+1) cap) (F++[r])→Below B w w'→w.grownBy w' v.ownBlock→wpList Tryz.prog ops Q rest (a.put o.dst (slv g (F.length+1) cap)) w'):wpList Tryz.prog ops Q (o::rest) a w:=by
 obtain ⟨i0,hi,hz0,hz1,hz2⟩:=info_parts Tryz.infoInts
 obtain ⟨vs,h1,h2,h3⟩:=hown
 refine wpList_append_lies w hgd s x 250 ho B 144 i0 _ 1 24 Tryz.underlying250 hi hz0 hz1 hz2 rfl (by omega) v F.length vs hs h2 ⟨b,0,none⟩ 1 1 [rv] hx rfl ?_ ?_ (by omega) (by unfold maxLen; omega) (by omega) hB w.heap.size rfl ?_
 ·intro j u hj
  have:j=0:=by have:=(List.getElem?_eq_some_iff.1 hj).1; simp at this; omega
  subst this
  simp only [List.getElem?_cons_zero,Option.some.injEq] at hj
  subst hj
  simpa [Addr.add_lit] using hc
 ·intro u hu
  simp only [List.mem_cons,List.not_mem_nil,or_false] at hu
  subst hu
  obtain ⟨sa,gb,go,cap,rfl,_⟩:=hr
  rfl
 ·intro g cap w' k1 k2 k3 k4
  refine h g cap w' ⟨vs++[rv],by simp [h1],?_,fun t ht ht' => ?_⟩ (Below.grown (Below.refl _ _) k2 hB (fun q hq=>(World.ownsRow.lt h2 q hq).1)) k2
  ·rw [List.length_append]; exact k1
  ·rcases Nat.lt_or_ge t F.length with hlt | hge
   ·simp only [List.getElem_append_left hlt,List.getElem_append_left (show t<vs.length by omega)]
    exact h3 t hlt (by omega)
   ·have hte:t=F.length:=by simp at ht; omega
    subst hte
    simp only [List.getElem_append_right (Nat.le_refl F.length),List.getElem_append_right (show vs.length≤F.length by omega),h1,Nat.sub_self,List.getElem_cons_zero]
    exact hr
end
theorem Sl.drop {w:World} {gb go c:Nat} {ga ga':Option Addr} {xs:List Value} (h:Sl w ga gb go xs) (ha:ga'=some ⟨gb,go+c,none⟩):Sl w ga' gb (go+c) (xs.drop c) :=
 ⟨fun _=>ha,fun i x hx=>by
  rw [List.getElem?_drop] at hx
  have:=h.cell (c+i) x hx
  rwa [← Nat.add_assoc] at this⟩
theorem ss_drop (l:List Int) (c:Nat):(ss l).drop c=ss (l.drop c):=by simp [ss,List.map_drop]
theorem krn_step {c i:Nat} {H:Mx} (h:i<H.length):krn c (H.take (i+1))=if pv H[i]<c then krn c (H.take i) else krn c (H.take i)++[H[i].drop c]:=by
 unfold krn low
 rw [take_snocM h,List.filter_append]
 by_cases hp:pv H[i]<c
 ·rw [if_pos hp,List.filter_cons_of_neg (by simp [hp])]; simp
 ·rw [if_neg hp,List.filter_cons_of_pos (by simp [hp])]; simp
theorem krn_len (c i:Nat) (H:Mx):(krn c (H.take i)).length≤i:=by
 unfold krn low
 rw [List.length_map]
 exact Nat.le_trans (List.length_filter_le _ _) (by simp; omega)
set_option maxHeartbeats 1000000 in
theorem kernel_any {w:World} {v:Value} {H:Mx} {c m:Nat} (hH:GridR w v H) (hR:Rect (c+m) H) (hm:0<m) (hl:H.length≤1000000) (hn:c+m≤1000000) :
  Calls Tryz.prog 191 #[v,.int .i64 c] w fun e w' => ∃ v',e = .returned v'∧GridR w' v' (krn c H)∧Ext w w':=by
 obtain ⟨sa,gb,go,cap,vs,rfl,hcap,hvl,hS,hr⟩:=hH
 have HS:=Lib.hid hS
 have HV:=Lib.hid hvl
 have HR:=Lib.hid hr
 have HRt:=Lib.hid hR
 clear hS hvl hr hR
 go_enter Tryz.func191,Tryz.ntmps191
 go_wp2_with fail
 go_loopw [5,10] (fun out idx wr => ∃ i:Nat,i≤H.length∧idx = .int .i64 i∧Hid (RdO w.heap.size w wr out (krn c (H.take i)))∧Ext w wr) (fun _ idx _=>H.length-(intOf idx).toNat)
 case atStart=>exact ⟨0,by omega,by go_num,Lib.hid (RdO.nil _ _ _),Ext.refl _⟩
 case round =>
  obtain ⟨i,hi',rfl,hV,hE⟩:=hrel
  generalize wr=X at *
  by_cases hlt:i<H.length
  ·have hii:(i:Int)<(H.length:Int):=by omega
   obtain rfl:=HS.out.addr (by rw [HV.out]; omega)
   obtain ⟨sr,br,or,cr,hrow,hrc,hSr⟩:=GridR.row HS.out HV.out HR.out hlt
   have hrl:H[i].length=c+m:=HRt.out _ (List.getElem_mem hlt)
   have hstep:=krn_step (c:=c) hlt
   obtain ⟨r,hr⟩ : ∃ r,r=H[i]:=⟨_,rfl⟩
   rw [← hr] at hrow hrc hSr hrl hstep
   rw [hrl] at hrow hrc
   have hrow':=hE.cell hrow
   obtain rfl:=hSr.addr (by simp; omega)
   have HSr:=Lib.hid hSr
   have hld:=Lib.hid (slead_any (w:=X) (cap:=cr) (hSr.ext hE) (by omega))
   rw [hrl] at hld
   have hcr:(c:Int)≤((c+m:Nat):Int):=by omega
   have hcr2:(c:Int)≤(cr:Int):=by omega
   have Hrl:=Lib.hid hrl
   have Hkl:=Lib.hid (krn_len c i H)
   have hcast:((c+m:Nat):Int)=(c:Int)+(m:Int):=by omega
   have Hrc:=Lib.hid hrc
   have hcrne : ¬ cr=c:=by omega
   have hcr3 : ¬ (cr-c=0):=by omega
   clear hr hrow hrc hSr hrl
   obtain ⟨p,hp⟩ : ∃ p,p=pv r:=⟨_,rfl⟩
   rw [← hp] at hstep hld
   by_cases hpc:p<c
   ·have hpi : ¬ (c:Int)≤(p:Int):=by omega
    rw [if_pos hpc] at hstep
    have Hstep:=Lib.hid hstep
    clear hstep hp hpc
    go_wp2_with fail
    refine hld.out.mono ?_
    rintro e W ⟨rfl,hW⟩
    go_wp2_with fail
    go_roundw
    case rel=>exact ⟨i+1,by omega,by go_num,Lib.hid (by rw [Hstep.out]; exact hV.out.ext hW),hE.trans hW⟩
    case measure=>simp [intOf] <;> omega
   ·have hpi:(c:Int)≤(p:Int):=by omega
    rw [if_neg hpc] at hstep
    have Hstep:=Lib.hid hstep
    have Hrd:=Lib.hid (show IntsR w (.slice (some ⟨br,or+c,none⟩) m (cr-c)) (r.drop c) by
     have hdl:(r.drop c).length=m:=by rw [List.length_drop,Hrl.out]; omega
     refine ⟨_,br,or+c,cr-c,by rw [hdl],by rw [hdl]; have:=Hrc.out; omega,?_⟩
     rw [← ss_drop]; exact HSr.out.drop rfl)
    clear hstep hp hpc
    have hXw:=hE.size
    go_wp2_with fail
    refine hld.out.mono ?_
    rintro e W ⟨rfl,hW⟩
    have hWX:=hW.size
    go_wp2_with (at_builtin; refine app_rd rfl _ _ rfl (B:=w.heap.size) (w0:=w) rfl ((hV.out.ext hW).ext ((Ext.refl _).alloc _)) rfl (b:=W.heap.size) (rv := .slice (some ⟨br,or+c,none⟩) m (cr-c)) (r:=r.drop c) (by go_simp <;> omega) Hrd.out (by have:=Hkl.out; omega) (by simp; omega) ?_; intro gg cap2 w8 hO8 hB8 hG8; rw [← Hstep.out] at hO8)
    have hE8:Ext w w8:=Below.trans ((hE.trans hW).alloc _) hB8
    have HO8:=Lib.hid hO8
    clear hG8 hB8 hO8
    go_wp2_with fail
    go_roundw
    case rel=>exact ⟨i+1,by omega,by go_num,Lib.hid (by
     have h1:=HO8.out
     rw [Hstep.out] at h1 ⊢
     simpa using h1),hE8⟩
    case measure=>simp [intOf] <;> omega
  ·have hie:i=H.length:=by omega
   subst hie
   go_wp2_with fail
   go_ret
   have h1:=hV.out
   rw [List.take_length] at h1
   exact ⟨_,rfl,h1.grid hE,hE⟩
end Go.Proofs.YtjnpakablgommaaGreatDoor
