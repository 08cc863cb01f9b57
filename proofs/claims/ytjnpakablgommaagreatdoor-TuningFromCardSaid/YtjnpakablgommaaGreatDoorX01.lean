/- Part 1, beside the shared parts, of the proof of the claim: contracts and plain laws; no condition. -/
import Derived.Test.YtjnpakablgommaaGreatDoorV01
import Derived.Test.YtjnpakablgommaaGreatDoorV02
import Derived.Test.YtjnpakablgommaaGreatDoorV03
import Derived.Test.YtjnpakablgommaaGreatDoorV04
import Derived.Test.YtjnpakablgommaaGreatDoorV05
import Derived.Test.YtjnpakablgommaaGreatDoorV06
import Derived.Test.YtjnpakablgommaaGreatDoorV07
import Derived.Test.YtjnpakablgommaaGreatDoorV08
import Derived.Test.YtjnpakablgommaaGreatDoorV09
import Derived.Test.YtjnpakablgommaaGreatDoorV10
import Derived.Test.YtjnpakablgommaaGreatDoorV11
import Derived.Test.YtjnpakablgommaaGreatDoorV12
import Derived.Test.YtjnpakablgommaaGreatDoorV13
import Derived.Test.YtjnpakablgommaaGreatDoorV14
import Derived.Test.YtjnpakablgommaaGreatDoorV15
import Derived.Test.YtjnpakablgommaaGreatDoorV16
import Derived.Test.YtjnpakablgommaaGreatDoorV17
import Derived.Test.YtjnpakablgommaaGreatDoorV18
import Derived.Test.YtjnpakablgommaaGreatDoorV19
import Derived.Test.YtjnpakablgommaaGreatDoorV20
import Derived.Test.YtjnpakablgommaaGreatDoorV21
import Derived.Test.YtjnpakablgommaaGreatDoorV22
import Derived.Test.YtjnpakablgommaaGreatDoorV23
import Derived.Test.YtjnpakablgommaaGreatDoorV24
import Derived.Test.YtjnpakablgommaaGreatDoorV25
import Derived.Test.YtjnpakablgommaaGreatDoorV26
import Derived.Test.YtjnpakablgommaaGreatDoorV27
import Derived.Test.YtjnpakablgommaaGreatDoorV28
import Derived.Test.YtjnpakablgommaaGreatDoorV29
import Derived.Test.YtjnpakablgommaaGreatDoorV30
set_option maxRecDepth 100000
namespace Go.Proofs.YtjnpakablgommaaGreatDoor
open Go.RowKit Go.Sort
theorem rat_zero_of {r:Rat} (h:r.num=0):r=0:=Rat.num_eq_zero.1 h
theorem list_zero {l:List Rat} (h : ∀ r∈l,r.num=0):l=List.replicate l.length 0:=List.eq_replicate_iff.2 ⟨rfl,fun r hr=>rat_zero_of (h r hr)⟩
theorem list_zero_iff {l:List Rat} {n:Nat} (hl:l.length=n):(∀ r∈l,r.num=0)↔l=List.replicate n 0:=by
 subst hl
 exact ⟨list_zero,fun h r hr=>by
  rw [h] at hr
  rw [(List.mem_replicate.1 hr).2]; rfl⟩
end Go.Proofs.YtjnpakablgommaaGreatDoor
namespace Go.Proofs.YtjnpakablgommaaGreatDoor
open Go.RowKit Go.Sort
open Hnf (V Span)
theorem sec_sum {n:Nat} {C M S:Mx} {x z:List Int} (h:SecOK n C M S) (hz:z.length=M.length) (hx:x.length=n) (hxe : ∀ c,c<n→x.getD c 0=sumZ (fun i=>z.getD i 0*(S.getD i []).getD c 0) M.length):tmpL M x=z:=by
 refine List.ext_getElem (by simp [hz]) fun j j1 j2 => ?_
 have hj:j<M.length:=by simpa using j1
 have e0:(tmpL M x)[j]=tmpE x M[j]:=by simp [tmpL]
 rw [e0]
 unfold tmpE
 rw [hx]
 have e1:sumZ (fun i=>x.getD i 0*M[j].getD i 0) n=sumZ (fun c=>sumZ (fun i=>z.getD i 0*((S.getD i []).getD c 0*M[j].getD c 0)) M.length) n:=sumZ_congr fun c hc=>by
  rw [hxe c hc]
  rw [show sumZ (fun i=>z.getD i 0*((S.getD i []).getD c 0*M[j].getD c 0)) M.length=M[j].getD c 0*sumZ (fun i=>z.getD i 0*(S.getD i []).getD c 0) M.length by
   rw [← sumZ_mul]
   exact sumZ_congr fun i _=>by rw [Int.mul_comm (M[j].getD c 0),Int.mul_assoc]]
  exact Int.mul_comm _ _
 rw [e1, ← sumZ_swap (fun i c=>z.getD i 0*((S.getD i []).getD c 0*M[j].getD c 0)) n M.length]
 have e2:sumZ (fun i=>sumZ (fun c=>z.getD i 0*((S.getD i []).getD c 0*M[j].getD c 0)) n) M.length=sumZ (fun i=>z.getD i 0*(if j=i then 1 else 0)) M.length:=sumZ_congr fun i hi=>by
  rw [sumZ_mul]
  have hi':i<S.length:=by rw [h.len]; exact hi
  obtain ⟨a,b,_⟩:=h.row i hi'
  have e3:tmpE S[i] M[j]=(unitL M.length i).getD j 0:=by
   rw [← b,getD_get (by simpa using hj)]; simp [tmpL]
  rw [unitL_getD hi] at e3
  rw [getD_get hi', ← e3]
  unfold tmpE
  rw [a]
 rw [e2,sumZ_one (k:=j) hj (fun i _ hne=>by rw [if_neg (fun e=>hne e.symm)]; simp),if_pos rfl,Int.mul_one]
 exact getD_get j2 0
end Go.Proofs.YtjnpakablgommaaGreatDoor
namespace Go.Proofs.YtjnpakablgommaaGreatDoor
open Go.RowKit Go.Sort
theorem bgE_ok {n:Nat} {x:List Int} (h:bgE n x=0):chkRow x=0∧x.length=n:=by
 unfold bgE at h
 split at h
 ·rename_i h1
  split at h
  ·rename_i h2; exact ⟨h1,h2⟩
  ·cases h
 ·rename_i h1; exact absurd h h1
def TpPost (w:World) (np:Nat) (M:Mx) (x:List Int) (e:Ending) (w':World):Prop :=
 Ext w w'∧((bgE np x=0∧smallB (tmpL M x)=true ∧ ∃ v,e = .returned (.tuple #[v,.int .i64 0])∧RowV w.heap.size w' v (tmpL M x))∨(bgE np x=0∧smallB (tmpL M x)=false∧e = .returned (.tuple #[.slice none 0 0,.int .i64 4]))∨(bgE np x≠0∧e = .returned (.tuple #[.slice none 0 0,.int .i64 (bgE np x)])))
theorem tmpL_nd {M:Mx} {x:List Int} (hx : ∀ z∈x,-1000000000≤z∧z≤1000000000) (hM:SmK M) (hl:x.length≤64) : ∀ z∈tmpL M x,nd z≤67:=fun z hz=>by
 obtain ⟨v,hv,rfl⟩:=List.mem_map.1 hz
 exact tmpT_b hx (hM v hv) hl
set_option maxHeartbeats 4000000 in
theorem Temper_any {w:World} {P:List Int} {C M:Mx} {sp:Option Addr} {cp:Nat} {sc:Option Addr} {lc cc:Nat} {sm:Option Addr} {lm cm:Nat} {sx:Option Addr} {n cx:Nat} {x:List Int} (h:TmV w P C M M sp cp sc lc cc sm lm cm) (hx:RowR w (.slice sx n cx) x) (hL:Laid w) :
  Calls Tryz.prog 20 #[tmS P sp cp sc lc cc sm lm cm,.slice sx n cx] w (TpPost w P.length M x):=by
 have hbe:=fun W b (hW:Ext w W) (hc:W.cell? ⟨b,0,none⟩=some (.slice sx n cx))=>begin1_any (b:=b) (h.ext hW) hc (hx.ext hW) (hL.ext hW)
 have hX:=(Ext.refl w).alloc (.cells #[.slice sp P.length cp,.slice sc lc cc,.slice sm lm cm] 34)
 have x0:(w.alloc (.cells #[.slice sp P.length cp,.slice sc lc cc,.slice sm lm cm] 34)).cell? ⟨w.heap.size,0,none⟩=some (.slice sp P.length cp):=by go_simp
 have x1:(w.alloc (.cells #[.slice sp P.length cp,.slice sc lc cc,.slice sm lm cm] 34)).cell? ⟨w.heap.size,1,none⟩=some (.slice sc lc cc):=by go_simp
 have x2:(w.alloc (.cells #[.slice sp P.length cp,.slice sc lc cc,.slice sm lm cm] 34)).cell? ⟨w.heap.size,2,none⟩=some (.slice sm lm cm):=by go_simp
 have hsz:w.heap.size≤(w.alloc (.cells #[.slice sp P.length cp,.slice sc lc cc,.slice sm lm cm] 34)).heap.size:=by simp
 have xb:((w.alloc (.cells #[.slice sp P.length cp,.slice sc lc cc,.slice sm lm cm] 34)).alloc (.cells #[.slice sx n cx] 30)).cell? ⟨w.heap.size+1,0,none⟩=some (.slice sx n cx):=by go_simp
 by_cases hb:bgE P.length x=0
 ·obtain ⟨hcx,hlx⟩:=bgE_ok hb
  obtain ⟨hx64,hxb⟩:=chkRow_ok hcx
  obtain ⟨psM,hIM⟩:=h.ok.kM.1
  have hlM:=isH_len hIM
  have hp4:=h.ok.p4
  have hte:=Lib.hid (fun W (hW:Ext w W)=>temper_any (h.ext hW) (hx.ext hW) hcx hlx (hL.ext hW))
  rw [hb] at hbe
  have Hbe:=Lib.hid hbe
  have Hnd:=Lib.hid (tmpL_nd hxb h.ok.sM hx64)
  have HL:=Lib.hid hL
  have Hb:=Lib.hid hb
  have hlen:(tmpL M x).length≤4:=by rw [tmpL_length]; omega
  clear hcx hlx hx64 hxb hIM hlM hp4 hbe hb h hx hL
  obtain ⟨l,hl⟩ : ∃ l,l=tmpL M x:=⟨_,rfl⟩
  rw [← hl] at hte Hnd hlen
  have Hl:=Lib.hid hl
  clear hl
  go_enter Tryz.func20,Tryz.ntmps20
  go_wp2_with fail
  refine (Hbe.out _ (w.heap.size+1) (hX.alloc (.cells #[.slice sx n cx] 30)) xb).mono ?_
  generalize w.alloc (.cells #[.slice sp P.length cp,.slice sc lc cc,.slice sm lm cm] 34)=V at *
  rintro e X ⟨rfl,hE1⟩
  have y0:=hE1.cell (((Ext.refl V).alloc (.cells #[.slice sx n cx] 30)).cell x0)
  have y1:=hE1.cell (((Ext.refl V).alloc (.cells #[.slice sx n cx] 30)).cell x1)
  have y2:=hE1.cell (((Ext.refl V).alloc (.cells #[.slice sx n cx] 30)).cell x2)
  have e1:=(hX.alloc (.cells #[.slice sx n cx] 30)).trans hE1
  clear x0 x1 x2 xb Hbe hX hE1
  go_wp2_with fail
  refine (hte.out _ e1).mono ?_
  rintro e X2 ⟨v1,rfl,hv1,hE2⟩
  obtain ⟨ga,gb,cap,rfl,hcap,hS⟩:=hv1.sl
  have HS:=Lib.hid hS
  have e2:=e1.trans hE2
  clear hv1 hS hte hE2 y0 y1 y2
  go_wp2_with fail
  go_loopw [7,23] (fun out idx wr => ∃ i:Nat,i≤l.length∧idx = .int .i64 i∧Hid (RowV X2.heap.size wr out (l.take i))∧Hid (∀ j (h:j<l.length),j<i→grt l[j]=false)∧Ext X2 wr) (fun _ idx _=>l.length-(intOf idx).toNat)
  case atStart=>exact ⟨0,by omega,by go_num,Lib.hid (by rw [List.take_zero]; exact RowV.nil _ _),Lib.hid (fun j _ h=>by omega),Ext.refl _⟩
  case round =>
   obtain ⟨i,hi',rfl,HO,Hz,hE⟩:=hrel
   generalize wr=Y at *
   by_cases hlt:i<l.length
   ·have hii:(i:Int)<(l.length:Int):=by omega
    obtain ⟨z,hz⟩ : ∃ z,z=l[i]:=⟨_,rfl⟩
    have hc:=hE.cell (HS.out.cell i (I z) (by rw [hz]; simp [ss,hlt]))
    rw [Nat.zero_add] at hc
    obtain rfl:=HS.out.addr (by simp; omega)
    have hsm:=Lib.hid (wholeSmall_any (z:=z) (w:=Y) (by have:=Hnd.out z (by rw [hz]; exact List.getElem_mem hlt); unfold LIM; omega) (HL.out.ext (e2.trans hE)))
    have Hzz:=Lib.hid hz
    have Hil:=Lib.hid (show (l.take i).length=i by rw [List.length_take]; omega)
    have Htk:=Lib.hid (show l.take (i+1)=l.take i++[z] by rw [List.take_succ_eq_append_getElem hlt,hz])
    have hYs:=hE.size
    cases hgz:grt z
    ·have hzb : -1000000000≤z∧z≤1000000000:=by
      unfold grt at hgz; have:=of_decide_eq_false hgz; omega
     have hin:inI64 z=true:=decide_eq_true (by omega)
     rw [hin,if_pos rfl] at hsm
     obtain ⟨hy1,hy2⟩:=hzb
     have Hgz:=Lib.hid hgz
     clear hin hgz hz
     go_wp2_with fail
     refine hsm.out.mono ?_
     rintro e W ⟨rfl,hW⟩
     have HOW:=Lib.hid (HO.out.ext hW)
     have hWs:=(hE.trans hW).size
     have hEW:=hE.trans hW
     clear HO hsm hW
     go_wp2_with (at_builtin; refine app_int rfl _ _ 30 Tryz.underlying30 rfl rfl (HOW.out.ext ((Ext.refl _).alloc _)) rfl (b:=W.heap.size) (z:=z) (by go_simp) (by rw [Hil.out]; omega) (by simp; omega) ?_; intro gg cap2 w8 hO8 hB8 hG8; rw [Hil.out] at hO8 ⊢; rw [← Htk.out] at hO8)
     have hE8:Ext X2 w8:=Below.trans (hEW.alloc (.cells #[.int .i64 z] 3)) hB8
     have HO8:=Lib.hid hO8
     clear hG8 hB8 hO8
     go_wp2_with fail
     go_roundw
     case rel=>exact ⟨i+1,by omega,by go_num,HO8,Lib.hid (fun j h hj=>by
      by_cases e:j=i
      ·subst e; rw [← Hzz.out]; exact Hgz.out
      ·exact Hz.out j h (by omega)),hE8⟩
     case measure=>simp [intOf] <;> omega
    ·have Hno:=Lib.hid (small_not hlt (by rw [← hz]; exact hgz))
     have hzb:1000000000<z∨z < -1000000000:=by
      unfold grt at hgz; exact of_decide_eq_true hgz
     clear hgz hz
     have hfin : ∀ W,Ext Y W→TpPost w P.length M x (.returned (.tuple #[.slice none 0 0,.int .i64 4])) W:=fun W hW=>⟨(e2.trans hE).trans hW,.inr (.inl ⟨Hb.out,by rw [← Hl.out]; exact Hno.out,rfl⟩)⟩
     have Hfin:=Lib.hid hfin
     clear hfin
     cases hin:inI64 z
     ·rw [hin,if_neg (by decide)] at hsm
      clear hin hzb
      go_wp2_with fail
      refine hsm.out.mono ?_
      rintro e W ⟨rfl,hW⟩
      go_wp2_with fail
      go_ret2
      exact Hfin.out _ hW
     ·rw [hin,if_pos rfl] at hsm
      clear hin
      rcases hzb with hzb | hzb
      ·go_wp2_with fail
       refine hsm.out.mono ?_
       rintro e W ⟨rfl,hW⟩
       go_wp2_with fail
       go_ret2
       exact Hfin.out _ hW
      ·have hzc:z≤1000000000:=by omega
       go_wp2_with fail
       refine hsm.out.mono ?_
       rintro e W ⟨rfl,hW⟩
       go_wp2_with fail
       go_ret2
       exact Hfin.out _ hW
   ·obtain rfl:i=l.length:=by omega
    have HF:=Lib.hid (show RowV X2.heap.size Y u7 l by have:=HO.out; rw [List.take_length] at this; exact this)
    have Hs:=Lib.hid (show smallB l=true from small_yes (fun j hj=>Hz.out j hj hj))
    have hs2:=e2.size
    go_wp2_with fail
    go_ret2
    exact ⟨e2.trans hE,.inl ⟨Hb.out,by rw [← Hl.out]; exact Hs.out,_,rfl,by rw [← Hl.out]; exact HF.out.mono hs2⟩⟩
 ·have Hbe:=Lib.hid hbe
  obtain ⟨z,hz⟩ : ∃ z,z=bgE P.length x:=⟨_,rfl⟩
  have Hfin:=Lib.hid (show ∀ W,Ext w W→TpPost w P.length M x (.returned (.tuple #[.slice none 0 0,.int .i64 z])) W from fun W hW=>⟨hW,.inr (.inr ⟨hb,by rw [hz]⟩)⟩)
  rw [← hz] at hbe hb
  have Hbe:=Lib.hid hbe
  have h2:(z==0)=false:=beq_eq_false_iff_ne.2 hb
  have h3:(z != 0)=true:=by simp [bne,h2]
  clear hz h hx hL hbe
  go_enter Tryz.func20,Tryz.ntmps20
  go_wp2_with fail
  refine (Hbe.out _ (w.heap.size+1) (hX.alloc (.cells #[.slice sx n cx] 30)) xb).mono ?_
  generalize w.alloc (.cells #[.slice sp P.length cp,.slice sc lc cc,.slice sm lm cm] 34)=V at *
  rintro e X ⟨rfl,hE1⟩
  have e1:=(hX.alloc (.cells #[.slice sx n cx] 30)).trans hE1
  go_wp2_with fail
  go_ret2
  exact Hfin.out _ e1
theorem mzE_bg {n:Nat} {x:List Int} (h:mzE n x=0) (hn:n≤64):bgE n x=0:=by
 obtain ⟨h1,h2⟩:=mzE_zero h
 have hc:chkRow x=0:=by
  unfold chkRow
  rw [if_neg (by omega),if_neg]
  intro h3
  rw [List.any_eq_true] at h3
  obtain ⟨z,hz,hg⟩:=h3
  have:=h2 z hz
  unfold grt at hg
  simp at hg
  omega
 unfold bgE
 rw [if_pos hc,if_pos h1]
def tuE (np:Nat) (M:Mx) (x:List Int):Int:=if mzE np x=0 then (if smallB (tmpL M x)=true then 0 else 4) else mzE np x
def tuL (np:Nat) (M:Mx) (G:List (List Rat)) (x:List Int):List Rat:=cmbQ G (nbL (tmpL M x)) np
@[simp] theorem tuL_length (np:Nat) (M:Mx) (G:List (List Rat)) (x:List Int):(tuL np M G x).length=np:=by simp [tuL]
def TePost (w:World) (np:Nat) (M:Mx) (G:List (List Rat)) (x:List Int) (e:Ending) (w':World):Prop :=
 Ext w w'∧((tuE np M x≠0∧e = .returned (.tuple #[.slice none 0 0,.int .i64 (tuE np M x)]))∨(tuE np M x=0 ∧ ∃ g,e = .returned (.tuple #[slv g np np,.int .i64 0])∧w.heap.size≤g∧SzO w.heap.size w' g (tuL np M G x)))
theorem nbL_nd {x:List Int} {E:Nat} (hx : ∀ z∈x,-1000000000≤z∧z≤1000000000) (hE:10≤E) : ∀ r∈nbL x,NdQ E r:=fun r hr=>by
 obtain ⟨z,hz,rfl⟩:=List.mem_map.1 hr
 refine NdQ.of_int ?_
 have:=hx z hz
 exact Nat.le_trans (nDigits_le (u:=z.natAbs) (k:=10) (by omega) (by omega)) hE
theorem tuL_nd {np:Nat} {M:Mx} {G:List (List Rat)} {x:List Int} (hG : ∀ l∈G,ShQ l) (hx:smallB (tmpL M x)=true) (hk:G.length≤4) : ∀ r∈tuL np M G x,NdQ 200 r:=fun r hr=>by
 unfold tuL cmbQ at hr
 obtain ⟨c,_,rfl⟩:=List.mem_map.1 hr
 refine (sumR_nd (E:=40) _ fun k _=>cmbF_nd (E:=30) (F:=10) (fun s hs=>shQ_nd (hG s hs) (by omega)) (nbL_nd (smallB_iff.1 hx) (by omega)) (by omega) (by omega)).mono ?_
 have:G.length*41≤4*41:=Nat.mul_le_mul_right _ hk
 omega
set_option maxHeartbeats 4000000 in
theorem tempered_any {w:World} {P:List Int} {C M:Mx} {G:List (List Rat)} {sp:Option Addr} {cp:Nat} {sc:Option Addr} {lc cc:Nat} {sm:Option Addr} {lm cm:Nat} {sg:Option Addr} {lg cg:Nat} {sx:Option Addr} {nx cx:Nat} {x:List Int} (h:TuV w P C M G sp cp sc lc cc sm lm cm sg lg cg) (hx:RowR w (.slice sx nx cx) x) (hL:Laid w) :
  Calls Tryz.prog 88 #[tuS P sp cp sc lc cc sm lm cm sg lg cg,.slice sx nx cx] w (TePost w P.length M G x):=by
 have hck:=Lib.hid (fun W (hW:Ext w W)=>tuCheck_any (h.ext hW) (hL.ext hW))
 obtain ⟨hT,hG,hln,hcl,hsh⟩:=h
 have hm4:=hT.m4
 have hp4:=hT.ok.p4
 have hmc:=Lib.hid (hT.mchk hx)
 have hte:=Lib.hid (fun W (hW:Ext w W)=>Temper_any (hT.ext hW) (hx.ext hW) (hL.ext hW))
 have hX:=(Ext.refl w).alloc (.cells #[.slice sp P.length cp,.slice sc lc cc,.slice sm lm cm,.slice sg lg cg] 67)
 have x0:(w.alloc (.cells #[.slice sp P.length cp,.slice sc lc cc,.slice sm lm cm,.slice sg lg cg] 67)).cell? ⟨w.heap.size,0,none⟩=some (.slice sp P.length cp):=by go_simp
 have x1:(w.alloc (.cells #[.slice sp P.length cp,.slice sc lc cc,.slice sm lm cm,.slice sg lg cg] 67)).cell? ⟨w.heap.size,1,none⟩=some (.slice sc lc cc):=by go_simp
 have x2:(w.alloc (.cells #[.slice sp P.length cp,.slice sc lc cc,.slice sm lm cm,.slice sg lg cg] 67)).cell? ⟨w.heap.size,2,none⟩=some (.slice sm lm cm):=by go_simp
 have x3:(w.alloc (.cells #[.slice sp P.length cp,.slice sc lc cc,.slice sm lm cm,.slice sg lg cg] 67)).cell? ⟨w.heap.size,3,none⟩=some (.slice sg lg cg):=by go_simp
 obtain ⟨y,hy⟩ : ∃ y,y=mzE P.length x:=⟨_,rfl⟩
 rw [← hy] at hmc
 have Hy:=Lib.hid hy
 clear hy
 by_cases hy0:y=0
 ·have h9:mzE P.length x=0:=by rw [← Hy.out]; exact hy0
  have hp64:P.length≤64:=Nat.le_trans hp4 (by decide)
  have hbg:=mzE_bg (n:=P.length) (x:=x) h9 hp64
  have htu:tuE P.length M x=if smallB (tmpL M x)=true then 0 else 4:=by unfold tuE; rw [if_pos h9]
  have Hbg:=Lib.hid hbg
  have Htu:=Lib.hid htu
  have HL:=Lib.hid hL
  have Hnum:=Lib.hid (fun W v (hW:Ext w W) (hv:RowR W v (tmpL M x)) (hs:smallB (tmpL M x)=true)=>numbers_any (w:=W) (v:=v) hv (by rw [tmpL_length]; omega) (fun z hz=>by have:=smallB_iff.1 hs z hz; unfold I64; omega) (hL.ext hW))
  have Hcmb:=Lib.hid (fun W v (hW:Ext w W) (hv:SzR W v (nbL (tmpL M x))) (hs:smallB (tmpL M x)=true)=>combine_any (pa:=sp) (cp:=cp) (hG.ext hW) hv hcl (by rw [nbL_length,tmpL_length]; omega) (fun s hs=>shQ_nd (hsh s hs) (by omega)) (nbL_nd (smallB_iff.1 hs) (by omega)) (by omega) (by omega) (hL.ext hW))
  have hdef:tuL P.length M G x=cmbQ G (nbL (tmpL M x)) P.length:=rfl
  rw [← hdef] at Hcmb
  subst hy0
  clear h9 hp64 hbg htu hdef hT hG hln hcl hsh hm4 hp4 hx hL
  go_enter Tryz.func88,Tryz.ntmps88
  go_wp2_with fail
  refine (hck.out _ hX).mono ?_
  rintro e X1 ⟨rfl,hE1⟩
  have e1:=hX.trans hE1
  replace x0:=hE1.cell x0
  replace x1:=hE1.cell x1
  replace x2:=hE1.cell x2
  replace x3:=hE1.cell x3
  clear hck hX hE1
  go_wp2_with fail
  refine (hmc.out _ e1).mono ?_
  rintro e X2 ⟨rfl,hE2⟩
  have e2:=e1.trans hE2
  replace x0:=hE2.cell x0
  replace x1:=hE2.cell x1
  replace x2:=hE2.cell x2
  replace x3:=hE2.cell x3
  clear hmc e1 hE2
  go_wp2_with fail
  refine (hte.out _ e2).mono ?_
  rintro e X3 ⟨hE3,(⟨_,hs,v,rfl,hv⟩ | ⟨_,hs,rfl⟩ | ⟨q,_⟩)⟩
  ·have e3:=e2.trans hE3
   have Hs:=Lib.hid hs
   have H0:=Lib.hid (show tuE P.length M x=0 by rw [Htu.out,if_pos hs])
   have Hv:=Lib.hid hv
   obtain ⟨va,vl,vc,rfl⟩:=RowV.slice hv
   replace x3:=hE3.cell x3
   have hw3:=e3.size
   clear hv hs hte e2 hE3 x0 x1 x2
   go_wp2_with fail
   have d0:Ext X3 X3.drew:=(Ext.refl X3).drew
   refine wp_region_held_tail (S:=fun W=>Ext X3 W) 6 (by kernel_rfl) (by simp) ?_
   intro inv
   generalize X3.drew=X4 at *
   refine wpAnyLH_take (i:=0) (v := .slice sp P.length cp) rfl (by kernel_rfl) (fun _ _ _ h=>h) (.inl ⟨by rfl,fun W hW=>by go_simp⟩) d0 inv ?_
   intro inv
   go_simp
   refine wpAnyLH_take (i:=1) (v := .pointer (some ⟨w.heap.size,3,none⟩)) rfl (by kernel_rfl) (fun _ _ _ h=>h) (.inl ⟨by rfl,fun W hW=>by go_simp⟩) d0 inv ?_
   intro inv
   go_simp
   refine wpAnyLH_take (i:=2) (v := .slice sg lg cg) rfl (by kernel_rfl) (fun _ _ _ h=>h) (.inl ⟨by rfl,fun W hW=>by have z0:=hW.cell x3; go_simp⟩) d0 inv ?_
   intro inv
   go_simp
   refine wpAnyLH_take (i:=3) (v := .slice va vl vc) rfl (by kernel_rfl) (fun _ _ _ h=>h) (.inl ⟨by rfl,fun W hW=>by go_simp⟩) d0 inv ?_
   intro inv
   go_simp
   refine wpAnyLH_oneI (i:=4) rfl (by kernel_rfl) inv (fun inv K0 hK0 => ?_)
   go_simp
   refine (Hnum.out _ _ (e3.trans d0) (Hv.out.row.ext d0) Hs.out).mono ?_
   rintro e X5 ⟨⟨u,rfl,hu⟩,hG1⟩
   have d1:=d0.trans hG1
   have Hu:=Lib.hid hu.read
   obtain ⟨ua,ul,uc,rfl⟩:=hu.slice
   refine hK0 _ _ d1 ?_
   clear hK0 hu
   refine wpAnyLH_oneI (i:=5) rfl (by kernel_rfl) inv (fun inv K0 hK0 => ?_)
   go_simp
   refine (Hcmb.out _ _ (e3.trans d1) Hu.out Hs.out).mono ?_
   rintro e X6 ⟨⟨gq,rfl,hgq,hO⟩,hG2⟩
   have d2:=d1.trans hG2
   have HO:=Lib.hid hO
   refine hK0 _ _ d2 ?_
   clear hK0 hO
   refine wpAnyLH_end (by kernel_rfl) ?_
   have hg9:w.heap.size≤gq:=by have:=d1.size; omega
   have HO9:=Lib.hid (HO.out.mono (B':=w.heap.size) (by have:=d1.size; omega))
   have e9:=e3.trans d2
   clear HO inv d0 d1 d2 hG1 hG2 hgq x3 Hnum Hcmb Hu Hv
   go_wp2_with fail
   go_ret2
   exact ⟨e9,.inr ⟨H0.out,gq,rfl,hg9,HO9.out⟩⟩
  ·have H4:=Lib.hid (show tuE P.length M x=4 by rw [Htu.out,hs]; rfl)
   clear hs
   go_wp2_with fail
   go_ret2
   exact ⟨e2.trans hE3,.inl ⟨by rw [H4.out]; decide,ret_val (congrArg (fun z=>Value.tuple #[.slice none 0 0,.int .i64 z]) H4.out.symm)⟩⟩
  ·exact absurd Hbg.out q
 ·have htu:tuE P.length M x=y:=by unfold tuE; rw [← Hy.out,if_neg hy0]
  have Htu:=Lib.hid htu
  have h2:(y==0)=false:=beq_eq_false_iff_ne.2 hy0
  have h3:(y != 0)=true:=by simp [bne,h2]
  have Hy0:=Lib.hid hy0
  clear hy0 htu hT hG hln hcl hsh hm4 hp4 hx hL
  go_enter Tryz.func88,Tryz.ntmps88
  go_wp2_with fail
  refine (hck.out _ hX).mono ?_
  rintro e X1 ⟨rfl,hE1⟩
  have e1:=hX.trans hE1
  replace x0:=hE1.cell x0
  clear hck hX hE1
  go_wp2_with fail
  refine (hmc.out _ e1).mono ?_
  rintro e X2 ⟨rfl,hE2⟩
  have e2:=e1.trans hE2
  clear hmc e1 hE2
  go_wp2_with fail
  go_ret2
  exact ⟨e2,.inl ⟨by rw [Htu.out]; exact Hy0.out,ret_val (congrArg (fun z=>Value.tuple #[.slice none 0 0,.int .i64 z]) Htu.out.symm)⟩⟩
theorem tuE_zero {np:Nat} {M:Mx} {x:List Int} (h:tuE np M x=0):mzE np x=0∧smallB (tmpL M x)=true:=by
 unfold tuE at h
 split at h
 ·rename_i h1
  split at h
  ·rename_i h2; exact ⟨h1,h2⟩
  ·cases h
 ·rename_i h1; exact absurd h h1
theorem tuResult_yes {w:World} {pa:Option Addr} {np cp:Nat} {v:Value} {l:List Rat} (h0:szE l=0) (hpc : ∀ W,Ext w W→Calls Tryz.prog 48 #[.slice pa np cp] W fun e w'=>e = .returned (.int .i64 0)∧Ext W w') (hs:SzR w v l) (hl:l.length=np) (hb : ∀ r∈l,NdQ 400 r) (h1000:np≤1000000) (hL:Laid w) :
  Calls Tryz.prog 85 #[.slice pa np cp,v] w fun e w'=>e = .returned (.tuple #[v,.int .i64 0])∧Ext w w':=by
 have h:=tuResult_any hpc hs hl hb h1000 hL (cp:=cp)
 unfold resV at h
 rw [if_pos h0] at h; exact h
theorem tuResult_no {w:World} {pa:Option Addr} {np cp:Nat} {v:Value} {l:List Rat} (h0:szE l≠0) (hpc : ∀ W,Ext w W→Calls Tryz.prog 48 #[.slice pa np cp] W fun e w'=>e = .returned (.int .i64 0)∧Ext W w') (hs:SzR w v l) (hl:l.length=np) (hb : ∀ r∈l,NdQ 400 r) (h1000:np≤1000000) (hL:Laid w) :
  Calls Tryz.prog 85 #[.slice pa np cp,v] w fun e w'=>e = .returned (.tuple #[.slice none 0 0,.int .i64 4])∧Ext w w':=by
 have h:=tuResult_any hpc hs hl hb h1000 hL (cp:=cp)
 unfold resV at h
 rw [if_neg h0] at h; exact h
def subTo (l f:List Rat) (i:Nat):List Rat:=(List.range l.length).map fun c=>l.getD c 0-(if c<i then f.getD c 0 else 0)
@[simp] theorem subTo_length (l f:List Rat) (i:Nat):(subTo l f i).length=l.length:=by simp [subTo]
theorem subTo_get {l f:List Rat} {i c:Nat} (h:c<(subTo l f i).length):(subTo l f i)[c]=l.getD c 0-(if c<i then f.getD c 0 else 0):=by simp [subTo]
theorem ratD_get {l:List Rat} {i:Nat} (h:i<l.length):l.getD i 0=l[i]:=by rw [List.getD_eq_getElem?_getD,List.getElem?_eq_getElem h]; rfl
theorem subTo_zero (l f:List Rat):subTo l f 0=l:=by
 refine List.ext_getElem (by simp) fun c h1 h2 => ?_
 rw [subTo_get,if_neg (by omega),ratD_get h2]; grind
theorem subTo_step {l f:List Rat} {i:Nat} (_:i<l.length):(subTo l f i).set i (l.getD i 0-f.getD i 0)=subTo l f (i+1):=by
 refine List.ext_getElem (by simp) fun c h1 h2 => ?_
 rw [List.getElem_set]
 by_cases e:i=c
 ·subst e
  rw [if_pos rfl,subTo_get,if_pos (by omega)]
 ·rw [if_neg e,subTo_get,subTo_get]
  by_cases h:c<i
  ·rw [if_pos h,if_pos (by omega)]
  ·rw [if_neg h,if_neg (by omega)]
theorem subTo_at {l f:List Rat} {i:Nat} (h:i<(subTo l f i).length):(subTo l f i)[i]=l.getD i 0:=by
 rw [subTo_get,if_neg (by omega)]; grind
def erL (np:Nat) (M:Mx) (G:List (List Rat)) (x:List Int):List Rat:=subTo (tuL np M G x) (nbL x) np
@[simp] theorem erL_length (np:Nat) (M:Mx) (G:List (List Rat)) (x:List Int):(erL np M G x).length=np:=by simp [erL]
theorem mz_nd {x:List Int} (hx : ∀ z∈x,-1000≤z∧z≤1000) (c:Nat):NdQ 4 ((nbL x).getD c 0):=by
 rw [List.getD_eq_getElem?_getD]
 by_cases h:c<(nbL x).length
 ·rw [List.getElem?_eq_getElem h,Option.getD_some]
  obtain ⟨z,hz,e⟩:=List.mem_map.1 (List.getElem_mem h)
  show NdQ 4 (nbL x)[c]
  rw [show (nbL x)[c]=(z:Rat) from e.symm]
  refine NdQ.of_int ?_
  have:=hx z hz
  exact nDigits_le (u:=z.natAbs) (k:=4) (by omega) (by omega)
 ·rw [List.getElem?_eq_none (by omega)]; exact NdQ.zero (by omega)
theorem tuL_ndD {np:Nat} {M:Mx} {G:List (List Rat)} {x:List Int} (h : ∀ r∈tuL np M G x,NdQ 200 r) (c:Nat):NdQ 200 ((tuL np M G x).getD c 0):=by
 rw [List.getD_eq_getElem?_getD]
 by_cases h2:c<(tuL np M G x).length
 ·rw [List.getElem?_eq_getElem h2,Option.getD_some]; exact h _ (List.getElem_mem h2)
 ·rw [List.getElem?_eq_none (by omega)]; exact NdQ.zero (by omega)
theorem erL_nd {np:Nat} {M:Mx} {G:List (List Rat)} {x:List Int} (h : ∀ r∈tuL np M G x,NdQ 200 r) (hx : ∀ z∈x,-1000≤z∧z≤1000) : ∀ r∈erL np M G x,NdQ 400 r:=fun r hr=>by
 unfold erL subTo at hr
 obtain ⟨c,_,rfl⟩:=List.mem_map.1 hr
 refine ((tuL_ndD h c).sub (F:=4) ?_).mono (by omega)
 split
 ·exact mz_nd hx c
 ·exact NdQ.zero (by omega)
def ErPost (w:World) (np:Nat) (M:Mx) (G:List (List Rat)) (x:List Int) (e:Ending) (w':World):Prop :=
 Ext w w'∧((tuE np M x≠0∧e = .returned (.tuple #[.slice none 0 0,.int .i64 (tuE np M x)]))∨(tuE np M x=0∧szE (erL np M G x)≠0∧e = .returned (.tuple #[.slice none 0 0,.int .i64 4]))∨(tuE np M x=0∧szE (erL np M G x)=0 ∧ ∃ g,e = .returned (.tuple #[slv g np np,.int .i64 0])∧SzO w.heap.size w' g (erL np M G x)))
set_option maxHeartbeats 4000000 in
theorem tuError_any {w:World} {P:List Int} {C M:Mx} {G:List (List Rat)} {sp:Option Addr} {cp:Nat} {sc:Option Addr} {lc cc:Nat} {sm:Option Addr} {lm cm:Nat} {sg:Option Addr} {lg cg:Nat} {sx:Option Addr} {nx cx:Nat} {x:List Int} (h:TuV w P C M G sp cp sc lc cc sm lm cm sg lg cg) (hx:RowR w (.slice sx nx cx) x) (hL:Laid w) :
  Calls Tryz.prog 31 #[tuS P sp cp sc lc cc sm lm cm sg lg cg,.slice sx nx cx] w (ErPost w P.length M G x):=by
 have hte:=Lib.hid (fun W (hW:Ext w W)=>tempered_any (h.ext hW) (hx.ext hW) (hL.ext hW))
 have hpc:=h.tm.pchk
 have hp4:=h.tm.ok.p4
 have hg4:G.length≤4:=by rw [h.ln]; exact h.tm.m4
 have Hnd:=Lib.hid (fun (hs:tuE P.length M x=0)=>tuL_nd (np:=P.length) h.sh (tuE_zero hs).2 hg4)
 have Hmz:=Lib.hid (fun (hs:tuE P.length M x=0)=>mzE_zero (tuE_zero hs).1)
 have Hnum:=Lib.hid (fun W (hW:Ext w W) (hs:tuE P.length M x=0)=>numbers_any (w:=W) (v := .slice sx nx cx) (hx.ext hW) (by rw [(mzE_zero (tuE_zero hs).1).1]; omega) (fun z hz=>by have:=(mzE_zero (tuE_zero hs).1).2 z hz; unfold I64; omega) (hL.ext hW))
 have Hpc:=Lib.hid hpc
 have HL:=Lib.hid hL
 have hX:=(Ext.refl w).alloc (.cells #[.slice sp P.length cp,.slice sc lc cc,.slice sm lm cm,.slice sg lg cg] 67)
 have x0:(w.alloc (.cells #[.slice sp P.length cp,.slice sc lc cc,.slice sm lm cm,.slice sg lg cg] 67)).cell? ⟨w.heap.size,0,none⟩=some (.slice sp P.length cp):=by go_simp
 have x1:(w.alloc (.cells #[.slice sp P.length cp,.slice sc lc cc,.slice sm lm cm,.slice sg lg cg] 67)).cell? ⟨w.heap.size,1,none⟩=some (.slice sc lc cc):=by go_simp
 have x2:(w.alloc (.cells #[.slice sp P.length cp,.slice sc lc cc,.slice sm lm cm,.slice sg lg cg] 67)).cell? ⟨w.heap.size,2,none⟩=some (.slice sm lm cm):=by go_simp
 have x3:(w.alloc (.cells #[.slice sp P.length cp,.slice sc lc cc,.slice sm lm cm,.slice sg lg cg] 67)).cell? ⟨w.heap.size,3,none⟩=some (.slice sg lg cg):=by go_simp
 have hwX:w.heap.size+1=(w.alloc (.cells #[.slice sp P.length cp,.slice sc lc cc,.slice sm lm cm,.slice sg lg cg] 67)).heap.size:=by simp
 have Hsz:=Lib.hid hwX
 clear h hx hg4 hpc hL hwX
 go_enter Tryz.func31,Tryz.ntmps31
 go_wp2_with fail
 refine (hte.out _ hX).mono ?_
 rintro e X1 ⟨hE1,(⟨hy,rfl⟩ | ⟨hy,g,rfl,hg,hO⟩)⟩
 ·have h2:(tuE P.length M x==0)=false:=beq_eq_false_iff_ne.2 hy
  have h3:(tuE P.length M x != 0)=true:=by simp [bne,h2]
  have Hy:=Lib.hid hy
  have Hdef:=Lib.hid (fun (e:Ending) W (hE:Ext w W) (h:e = .returned (.tuple #[.slice none 0 0,.int .i64 (tuE P.length M x)]))=>show ErPost w P.length M G x e W from ⟨hE,.inl ⟨Hy.out,h⟩⟩)
  generalize tuE P.length M x=y at *
  clear hy Hnd Hmz Hnum
  go_wp2_with fail
  go_ret2
  exact Hdef.out _ _ (hX.trans hE1) rfl
 ·have e1:=hX.trans hE1
  have HO:=Lib.hid hO
  have Hy:=Lib.hid hy
  have Hnd:=Lib.hid (Hnd.out hy)
  have Hmz:=Lib.hid (Hmz.out hy)
  have hnum:=Lib.hid (Hnum.out X1 e1 hy)
  replace x0:=hE1.cell x0
  have Hgw:=Lib.hid (show w.heap.size+1≤g by rw [Hsz.out]; exact hg)
  have Hgl:=Lib.hid (OwnV.lt hO).2
  have Hln:=Lib.hid (show (nbL x).length=P.length by rw [nbL_length]; exact Hmz.out.1)
  obtain ⟨l,hl⟩ : ∃ l,l=tuL P.length M G x:=⟨_,rfl⟩
  rw [← hl] at HO Hnd
  have Hll:=Lib.hid (show l.length=P.length by rw [hl]; simp)
  obtain ⟨f,hf⟩ : ∃ f,f=nbL x:=⟨_,rfl⟩
  rw [← hf] at hnum Hln
  have Hsl:=Lib.hid (fun c=>show NdQ 200 (l.getD c 0) by rw [hl]; exact tuL_ndD (by rw [← hl]; exact Hnd.out) c)
  have Hsf:=Lib.hid (fun c=>show NdQ 4 (f.getD c 0) by rw [hf]; exact mz_nd Hmz.out.2 c)
  have Her:=Lib.hid (show erL P.length M G x=subTo l f P.length by unfold erL; rw [hl,hf])
  have Hend:=Lib.hid (erL_nd (np:=P.length) (M:=M) (G:=G) (x:=x) (by rw [← hl]; exact Hnd.out) Hmz.out.2)
  clear hO hy hte hg hE1 Hnum hl hf
  go_wp2_with fail
  refine hnum.out.mono ?_
  rintro e X2 ⟨⟨u,rfl,hu⟩,hE2⟩
  replace x0:=hE2.cell x0
  have e2:=e1.trans hE2
  replace HO:=Lib.hid (HO.out.ext hE2)
  have Hu:=Lib.hid hu
  obtain ⟨ua,ul,uc,rfl⟩:=hu.slice
  have hul:ul=P.length:=by
   have:=hu.read
   obtain ⟨_,_,_,_,e,_⟩:=this
   injection e with e4 e5 e6
   rw [e5,Hln.out]
  subst hul
  have hEB:=Lib.hid (Below.refl g X2)
  have Hg2:=Lib.hid (show g≤X2.heap.size by have:=hE2.size; have:=Hgl.out; omega)
  clear hnum hE2 e1 hu
  go_wp2_with fail
  go_loopw [22] (fun iv wr => ∃ i:Nat,i≤P.length∧iv = .int .i64 i∧Hid (SzO (w.heap.size+1) wr g (subTo l f i))∧Hid (SzV X1.heap.size wr (.slice ua P.length uc) f)∧Hid (Below g X2 wr)) (fun iv _=>P.length-(intOf iv).toNat)
  case atStart=>exact ⟨0,by omega,by go_num,Lib.hid (by rw [subTo_zero]; exact HO.out.mono (by rw [Hsz.out]; exact Nat.le_refl _)),Hu,hEB⟩
  case round =>
   obtain ⟨i,hi,rfl,HO,Hu,HB⟩:=hrel
   generalize wr=X at *
   have e0:=Lib.hid (show Ext w X from Below.trans e2 (HB.out.mono (by have:=Hgw.out; have:=e2.size; omega)))
   by_cases hlt:i<P.length
   ·have hii:(i:Int)<(P.length:Int):=by omega
    obtain ⟨ua',gb,uo',uc',eu,_,hua,hcu⟩:=Hu.out.read
    injection eu with eu1 eu2 eu3
    subst eu1
    obtain rfl:=hua (by rw [Hln.out]; omega)
    obtain ⟨u0,u1⟩:=hcu i (by rw [Hln.out]; exact hlt)
    rw [← ratD_get (show i<f.length by rw [Hln.out]; exact hlt)] at u0 u1
    have hil:i<(subTo l f i).length:=by rw [subTo_length,Hll.out]; exact hlt
    obtain ⟨t0,t1⟩:=HO.out.cells hil
    rw [subTo_at hil] at t0 t1
    have Hst:=Lib.hid (subTo_step (f:=f) (show i<l.length by rw [Hll.out]; exact hlt))
    have Hil:=Lib.hid hil
    have hsb:=Lib.hid (fun W (hW:Ext X W)=>ratSub_any (a:=l.getD i 0) (b:=f.getD i 0) ((Hsl.out i).smQ (by omega)) ((Hsf.out i).smQ (by omega)) (HL.out.ext (e0.out.trans hW)))
    obtain ⟨t,ht⟩ : ∃ t,t=l.getD i 0:=⟨_,rfl⟩
    obtain ⟨s,hs⟩ : ∃ s,s=f.getD i 0:=⟨_,rfl⟩
    rw [← ht] at t0 t1 Hst hsb
    rw [← hs] at u0 u1 Hst hsb
    have dA:=(Ext.refl X).alloc (.cells #[I s.num,I s.den] 81)
    have hOn:=two_alloc X 81 (I s.num) (I s.den)
    have z0:=hOn.cell (j:=0) (by simp)
    have z1:=hOn.cell (j:=1) (by simp)
    simp only [List.getElem_cons_zero,List.getElem_cons_succ] at z0 z1
    clear hil hlt ht hs hcu hua eu2 eu3 hOn
    obtain ⟨bn,hbn⟩ : ∃ bn,bn=X.heap.size:=⟨_,rfl⟩
    rw [← hbn] at z0 z1
    have Hbn:=Lib.hid hbn
    clear hbn
    go_wp2_with fail
    rw [← Hbn.out]
    generalize X.alloc (.cells #[I s.num,I s.den] 81)=XA at *
    replace t0:=dA.cell t0
    replace t1:=dA.cell t1
    have d0:Ext XA XA.drew:=(Ext.refl XA).drew
    refine wp_region_held_tail (S:=fun W=>Ext XA W) 8 (by kernel_rfl) (by simp) ?_
    intro inv
    generalize XA.drew=XB at *
    refine wpAnyLH_take (i:=0) (v:=slv g P.length P.length) rfl (by kernel_rfl) (fun _ _ _ h=>h) (.inl ⟨by rfl,fun W hW=>by go_simp⟩) d0 inv ?_
    intro inv
    go_simp
    refine wpAnyLH_take (i:=1) (v := .int .i64 i) rfl (by kernel_rfl) (fun _ _ _ h=>h) (.inl ⟨by rfl,fun W hW=>by go_simp⟩) d0 inv ?_
    intro inv
    go_simp
    refine wpAnyLH_take (i:=2) (v:=slv g P.length P.length) rfl (by kernel_rfl) (fun _ _ _ h=>h) (.inl ⟨by rfl,fun W hW=>by go_simp⟩) d0 inv ?_
    intro inv
    go_simp
    refine wpAnyLH_take (i:=3) (v := .int .i64 i) rfl (by kernel_rfl) (fun _ _ _ h=>h) (.inl ⟨by rfl,fun W hW=>by go_simp⟩) d0 inv ?_
    intro inv
    go_simp
    refine wpAnyLH_take (i:=4) (v := .pointer (some ⟨g,i*2,none⟩)) rfl (by kernel_rfl) (fun _ _ _ h=>h) (.inl ⟨by rfl,fun W hW=>by go_simp⟩) d0 inv ?_
    intro inv
    go_simp
    refine wpAnyLH_take (i:=5) (v:=RV t) rfl (by kernel_rfl) (fun _ _ _ h=>h) (.inl ⟨by rfl,fun W hW=>by have y0:=hW.cell t0; have y1:=hW.cell t1; go_simp⟩) d0 inv ?_
    intro inv
    go_simp
    refine wpAnyLH_take (i:=6) (v:=RV s) rfl (by kernel_rfl) (fun _ _ _ h=>h) (.inl ⟨by rfl,fun W hW=>by have y0:=hW.cell z0; have y1:=hW.cell z1; go_simp⟩) d0 inv ?_
    intro inv
    go_simp
    refine wpAnyLH_oneI (i:=7) rfl (by kernel_rfl) inv (fun inv K0 hK0 => ?_)
    go_simp
    refine (hsb.out _ (dA.trans d0)).mono ?_
    rintro e XC ⟨rfl,hG1⟩
    have d1:=d0.trans hG1
    refine hK0 _ _ d1 ?_
    clear hK0
    refine wpAnyLH_end (by kernel_rfl) ?_
    have eC:=dA.trans d1
    obtain ⟨⟨ca,cb,y0,y1⟩,f0',f1',HO9,hB9,hG9⟩:=SzO.stepB (HB.out.trans (Below.mono eC (by have:=HB.out.size; have:=Hg2.out; omega))) Hg2.out (Nat.le_refl g) (HO.out.ext eC) Hil.out (t-s)
    rw [Hst.out] at HO9
    have Hu9:=Lib.hid ((Hu.out.ext eC).kept hG9.out Hgl.out)
    clear hsb inv d0 d1 hG1 t0 t1 z0 z1 u0 u1 HO Hu HB eC dA
    go_wp2_with fail
    go_roundw
    case rel=>exact ⟨i+1,by omega,by go_num,HO9,Hu9,hB9⟩
    case measure=>simp [intOf] <;> omega
   ·obtain rfl:i=P.length:=by omega
    have hii : ¬ (P.length:Int)<(P.length:Int):=by omega
    have y0:X.cell? ⟨w.heap.size,0,none⟩=some (.slice sp P.length cp):=by rw [Below.cell HB.out (show w.heap.size<g by have:=Hgw.out; omega)]; exact x0
    have HO:=Lib.hid (show SzO (w.heap.size+1) X g (erL P.length M G x) by rw [Her.out]; exact HO.out)
    have hz:SzR X (slv g P.length P.length) (erL P.length M G x):=by
     have:=HO.out.val.read
     rwa [erL_length] at this
    clear x0 hlt
    by_cases h0:szE (erL P.length M G x)=0
    ·have hrs:=Lib.hid (tuResult_yes (pa:=sp) (cp:=cp) h0 (fun W hW=>Hpc.out W (e0.out.trans hW)) hz (erL_length _ _ _ _) Hend.out (by omega) (HL.out.ext e0.out))
     have H0:=Lib.hid h0
     clear h0 hz
     go_wp2_with fail
     refine hrs.out.mono ?_
     rintro e X9 ⟨rfl,hE9⟩
     go_wp2_with fail
     go_ret2
     exact ⟨e0.out.trans hE9,.inr (.inr ⟨Hy.out,H0.out,g,rfl,(HO.out.ext hE9).mono (by omega)⟩)⟩
    ·have hrs:=Lib.hid (tuResult_no (pa:=sp) (cp:=cp) h0 (fun W hW=>Hpc.out W (e0.out.trans hW)) hz (erL_length _ _ _ _) Hend.out (by omega) (HL.out.ext e0.out))
     have H0:=Lib.hid h0
     clear h0 hz
     go_wp2_with fail
     refine hrs.out.mono ?_
     rintro e X9 ⟨rfl,hE9⟩
     go_wp2_with fail
     go_ret2
     exact ⟨e0.out.trans hE9,.inr (.inl ⟨Hy.out,H0.out,rfl⟩)⟩
set_option maxHeartbeats 1000000 in
theorem whole24_any {n:Int} (hn : -9223372036854775808≤n∧n≤9223372036854775807) {w:World} (hL:Laid w) :
  Calls Tryz.prog 80 #[.int .i64 n] w fun e w'=>e = .returned (RV (n:Rat))∧Ext w w':=by
 have hof:=Lib.hid (fun W (hW:Ext w W)=>ratOf_any (d:=1) hn (by omega) (by omega) (hL.ext hW))
 rw [show ((n:Rat)/((1:Int):Rat))=(n:Rat) by grind] at hof
 obtain ⟨r,hr⟩ : ∃ r:Rat,r=(n:Rat):=⟨_,rfl⟩
 rw [← hr] at hof ⊢
 unfold RV at hof ⊢
 generalize r.num=x at *
 generalize ((r.den:Nat):Int)=y at *
 have HO:=Lib.hid (two_alloc w 81 (.string ⟨#[]⟩) (.string ⟨#[]⟩))
 have hX:Ext w (w.alloc (.cells #[.string ⟨#[]⟩,.string ⟨#[]⟩] 81)):=(Ext.refl w).alloc _
 clear hr hn hL
 go_enter Tryz.func80,Tryz.ntmps80
 go_wp2_with fail
 refine (hof.out _ hX).mono ?_
 rintro e w1 ⟨rfl,hE1⟩
 replace HO:=Lib.hid (HO.out.ext hE1)
 replace hX:=hX.trans hE1
 clear hof
 have HN:=two_alloc w1 81 (I x) (I y)
 have hXN:Ext w1 (w1.alloc (.cells #[I x,I y] 81)):=(Ext.refl w1).alloc _
 have c0:(w1.alloc (.cells #[I x,I y] 81)).cell? ⟨w1.heap.size,0,none⟩=some (I x):=HN.cell (j:=0) (by simp)
 have c1:(w1.alloc (.cells #[I x,I y] 81)).cell? ⟨w1.heap.size,1,none⟩=some (I y):=HN.cell (j:=1) (by simp)
 clear HN
 replace HO:=Lib.hid (HO.out.ext hXN)
 replace hX:=hX.trans hXN
 obtain ⟨q0,q1,f0,f1,r0,r1,hF⟩:=two_end hX (Nat.le_refl _) HO.out (I x) (I y)
 have Hres:=Lib.hid (show RetF w (.agg #[I x,I y]) (.returned (.agg #[I x,I y])) _ from ⟨rfl,hF.out⟩)
 go_wp2_with fail
 refine bodyPost_ret (v := .agg #[I x,I y]) (by simp [results,Tryz.results80,go_sem,r0,r1]) rfl Hres.out
set_option maxHeartbeats 1000000 in
theorem part24_any {n d:Int} (hn : -9223372036854775808≤n∧n≤9223372036854775807) (hd : -9223372036854775808≤d∧d≤9223372036854775807) (h0:d≠0) {w:World} (hL:Laid w) :
  Calls Tryz.prog 81 #[.int .i64 n,.int .i64 d] w fun e w'=>e = .returned (RV ((n:Rat)/(d:Rat)))∧Ext w w':=by
 have hof:=Lib.hid (fun W (hW:Ext w W)=>ratOf_any hn hd h0 (hL.ext hW))
 obtain ⟨r,hr⟩ : ∃ r:Rat,r=((n:Rat)/(d:Rat)):=⟨_,rfl⟩
 rw [← hr] at hof ⊢
 unfold RV at hof ⊢
 generalize r.num=x at *
 generalize ((r.den:Nat):Int)=y at *
 have HO:=Lib.hid (two_alloc w 81 (.string ⟨#[]⟩) (.string ⟨#[]⟩))
 have hX:Ext w (w.alloc (.cells #[.string ⟨#[]⟩,.string ⟨#[]⟩] 81)):=(Ext.refl w).alloc _
 clear hr hn hL hd h0
 go_enter Tryz.func81,Tryz.ntmps81
 go_wp2_with fail
 refine (hof.out _ hX).mono ?_
 rintro e w1 ⟨rfl,hE1⟩
 replace HO:=Lib.hid (HO.out.ext hE1)
 replace hX:=hX.trans hE1
 clear hof
 have HN:=two_alloc w1 81 (I x) (I y)
 have hXN:Ext w1 (w1.alloc (.cells #[I x,I y] 81)):=(Ext.refl w1).alloc _
 have c0:(w1.alloc (.cells #[I x,I y] 81)).cell? ⟨w1.heap.size,0,none⟩=some (I x):=HN.cell (j:=0) (by simp)
 have c1:(w1.alloc (.cells #[I x,I y] 81)).cell? ⟨w1.heap.size,1,none⟩=some (I y):=HN.cell (j:=1) (by simp)
 clear HN
 replace HO:=Lib.hid (HO.out.ext hXN)
 replace hX:=hX.trans hXN
 obtain ⟨q0,q1,f0,f1,r0,r1,hF⟩:=two_end hX (Nat.le_refl _) HO.out (I x) (I y)
 have Hres:=Lib.hid (show RetF w (.agg #[I x,I y]) (.returned (.agg #[I x,I y])) _ from ⟨rfl,hF.out⟩)
 go_wp2_with fail
 refine bodyPost_ret (v := .agg #[I x,I y]) (by simp [results,Tryz.results81,go_sem,r0,r1]) rfl Hres.out
set_option maxHeartbeats 1000000 in
theorem part13_any {n d:Int} (hn : -9223372036854775808≤n∧n≤9223372036854775807) (hd : -9223372036854775808≤d∧d≤9223372036854775807) (h0:d≠0) {w:World} (hL:Laid w) :
  Calls Tryz.prog 158 #[.int .i64 n,.int .i64 d] w fun e w'=>e = .returned (RV ((n:Rat)/(d:Rat)))∧Ext w w':=by
 have hof:=Lib.hid (fun W (hW:Ext w W)=>ratOf_any hn hd h0 (hL.ext hW))
 obtain ⟨r,hr⟩ : ∃ r:Rat,r=((n:Rat)/(d:Rat)):=⟨_,rfl⟩
 rw [← hr] at hof ⊢
 unfold RV at hof ⊢
 generalize r.num=x at *
 generalize ((r.den:Nat):Int)=y at *
 have HO:=Lib.hid (two_alloc w 81 (.string ⟨#[]⟩) (.string ⟨#[]⟩))
 have hX:Ext w (w.alloc (.cells #[.string ⟨#[]⟩,.string ⟨#[]⟩] 81)):=(Ext.refl w).alloc _
 clear hr hn hL hd h0
 go_enter Tryz.func158,Tryz.ntmps158
 go_wp2_with fail
 refine (hof.out _ hX).mono ?_
 rintro e w1 ⟨rfl,hE1⟩
 replace HO:=Lib.hid (HO.out.ext hE1)
 replace hX:=hX.trans hE1
 clear hof
 have HN:=two_alloc w1 81 (I x) (I y)
 have hXN:Ext w1 (w1.alloc (.cells #[I x,I y] 81)):=(Ext.refl w1).alloc _
 have c0:(w1.alloc (.cells #[I x,I y] 81)).cell? ⟨w1.heap.size,0,none⟩=some (I x):=HN.cell (j:=0) (by simp)
 have c1:(w1.alloc (.cells #[I x,I y] 81)).cell? ⟨w1.heap.size,1,none⟩=some (I y):=HN.cell (j:=1) (by simp)
 clear HN
 replace HO:=Lib.hid (HO.out.ext hXN)
 replace hX:=hX.trans hXN
 obtain ⟨q0,q1,f0,f1,r0,r1,hF⟩:=two_end hX (Nat.le_refl _) HO.out (I x) (I y)
 have Hres:=Lib.hid (show RetF w (.agg #[I x,I y]) (.returned (.agg #[I x,I y])) _ from ⟨rfl,hF.out⟩)
 go_wp2_with fail
 refine bodyPost_ret (v := .agg #[I x,I y]) (by simp [results,Tryz.results158,go_sem,r0,r1]) rfl Hres.out
end Go.Proofs.YtjnpakablgommaaGreatDoor
