/- Part 43 of the proof of the claim: contracts of the functions that it reaches, and plain laws; no condition. -/
import Derived.Test.YtmhfccigejcphaaGreatDoorV38
import Derived.Test.YtmhfccigejcphaaGreatDoorV42
import Derived.Test.YtmhfccigejcphaaGreatDoorV02
import Derived.Test.YtmhfccigejcphaaGreatDoorV11
import Derived.Test.YtmhfccigejcphaaGreatDoorRows
import Derived.ProofKit
import Derived.LaidMore
import Derived.OpenShut
import Derived.Stop.Joined
import Derived.Stop.LaidErr
import Derived.Lib.LaidTab
import Derived.Deep.Matrix
import Derived.Test.YtmhfccigejcphaaGreatDoorCards
import Derived.Test.YtmhfccigejcphaaGreatDoorTie
import Derived.SevenTiedAt
set_option maxRecDepth 100000
namespace Go.Proofs.YtmhfccigejcphaaGreatDoor
open Go.RowKit Go.Sort
open Lib (hid)
variable {w:World} {n cp m cu gm nx cx:Nat} {sp sx:Option Addr} {vo:Value} {P:List Int} {M:Mx} {O:List Rat} {vl x:List Int}
theorem degree_err (h:FkB w n cp m cu gm sp vo P M O vl) (hx:RowR w (.slice sx nx cx) x) (he:mzE n x≠0) (hL:Laid w) :
  Calls Tryz.prog 29 #[bkv n cp m cu gm sp vo,.slice sx nx cx] w fun e w'=>e = .returned (.tuple #[.int .i64 0,.int .i64 0,.int .i64 (mzE n x)])∧Ext w w':=by
 have hop:=hid (fun W (hW:Ext w W)=>with_any (h.ext hW) (hx.ext hW) (hL.ext hW))
 have HX:=box3 w 60 (.slice sp n cp) (.slice (some ⟨gm,0,none⟩) m cu) vo
 have hE0:Ext w (w.alloc (.cells #[.slice sp n cp,.slice (some ⟨gm,0,none⟩) m cu,vo] 60)):=(Ext.refl w).alloc _
 obtain ⟨a0,a1,a2⟩:=cell3 HX
 obtain ⟨z,hz⟩ : ∃ z,z=mzE n x:=⟨_,rfl⟩
 have Hz:=hid hz
 rw [← hz] at he ⊢
 have hzb:(z != 0)=true:=by simp [he]
 clear h hx hL HX hz
 go_enter Tryz.func29,Tryz.ntmps29
 go_wp2_with fail
 refine (hop.out _ hE0).mono ?_
 rintro e W1 (⟨h0,_⟩ | ⟨_,rfl,hE1⟩)
 ·rw [← Hz.out] at h0
  exact absurd h0 he
 rw [← Hz.out]
 have hEr:=hE0.trans hE1
 clear hop
 go_wp2_with fail
 go_ret3
 exact ⟨rfl,hEr⟩
theorem reduce_err (h:FkB w n cp m cu gm sp vo P M O vl) (hx:RowR w (.slice sx nx cx) x) (he:mzE n x≠0) (hL:Laid w) :
  Calls Tryz.prog 23 #[bkv n cp m cu gm sp vo,.slice sx nx cx] w fun e w'=>e = .returned (.tuple #[.slice none 0 0,.int .i64 (mzE n x)])∧Ext w w':=by
 have hop:=hid (fun W (hW:Ext w W)=>with_any (h.ext hW) (hx.ext hW) (hL.ext hW))
 have HX:=box3 w 60 (.slice sp n cp) (.slice (some ⟨gm,0,none⟩) m cu) vo
 have hE0:Ext w (w.alloc (.cells #[.slice sp n cp,.slice (some ⟨gm,0,none⟩) m cu,vo] 60)):=(Ext.refl w).alloc _
 obtain ⟨a0,a1,a2⟩:=cell3 HX
 obtain ⟨z,hz⟩ : ∃ z,z=mzE n x:=⟨_,rfl⟩
 have Hz:=hid hz
 rw [← hz] at he ⊢
 have hzb:(z != 0)=true:=by simp [he]
 clear h hx hL HX hz
 go_enter Tryz.func23,Tryz.ntmps23
 go_wp2_with fail
 refine (hop.out _ hE0).mono ?_
 rintro e W1 (⟨h0,_⟩ | ⟨_,rfl,hE1⟩)
 ·rw [← Hz.out] at h0
  exact absurd h0 he
 rw [← Hz.out]
 have hEr:=hE0.trans hE1
 clear hop
 go_wp2_with fail
 go_ret2
 exact ⟨rfl,hEr⟩
theorem has_err (h:FkB w n cp m cu gm sp vo P M O vl) (hx:RowR w (.slice sx nx cx) x) (he:mzE n x≠0) (hL:Laid w) :
  Calls Tryz.prog 26 #[bkv n cp m cu gm sp vo,.slice sx nx cx] w fun e w'=>e = .returned (.tuple #[.bool false,.int .i64 (mzE n x)])∧Ext w w':=by
 have hop:=hid (fun W (hW:Ext w W)=>with_any (h.ext hW) (hx.ext hW) (hL.ext hW))
 have HX:=box3 w 60 (.slice sp n cp) (.slice (some ⟨gm,0,none⟩) m cu) vo
 have hE0:Ext w (w.alloc (.cells #[.slice sp n cp,.slice (some ⟨gm,0,none⟩) m cu,vo] 60)):=(Ext.refl w).alloc _
 obtain ⟨a0,a1,a2⟩:=cell3 HX
 obtain ⟨z,hz⟩ : ∃ z,z=mzE n x:=⟨_,rfl⟩
 have Hz:=hid hz
 rw [← hz] at he ⊢
 have hzb:(z != 0)=true:=by simp [he]
 clear h hx hL HX hz
 go_enter Tryz.func26,Tryz.ntmps26
 go_wp2_with fail
 refine (hop.out _ hE0).mono ?_
 rintro e W1 (⟨h0,_⟩ | ⟨_,rfl,hE1⟩)
 ·rw [← Hz.out] at h0
  exact absurd h0 he
 rw [← Hz.out]
 have hEr:=hE0.trans hE1
 clear hop
 go_wp2_with fail
 go_ret2
 exact ⟨rfl,hEr⟩
theorem coordinates_err (h:FkB w n cp m cu gm sp vo P M O vl) (hx:RowR w (.slice sx nx cx) x) (he:mzE n x≠0) (hL:Laid w) :
  Calls Tryz.prog 30 #[bkv n cp m cu gm sp vo,.slice sx nx cx] w fun e w'=>e = .returned (.tuple #[.slice none 0 0,.int .i64 (mzE n x)])∧Ext w w':=by
 have hop:=hid (fun W (hW:Ext w W)=>with_any (h.ext hW) (hx.ext hW) (hL.ext hW))
 have HX:=box3 w 60 (.slice sp n cp) (.slice (some ⟨gm,0,none⟩) m cu) vo
 have hE0:Ext w (w.alloc (.cells #[.slice sp n cp,.slice (some ⟨gm,0,none⟩) m cu,vo] 60)):=(Ext.refl w).alloc _
 obtain ⟨a0,a1,a2⟩:=cell3 HX
 obtain ⟨z,hz⟩ : ∃ z,z=mzE n x:=⟨_,rfl⟩
 have Hz:=hid hz
 rw [← hz] at he ⊢
 have hzb:(z != 0)=true:=by simp [he]
 clear h hx hL HX hz
 go_enter Tryz.func30,Tryz.ntmps30
 go_wp2_with fail
 refine (hop.out _ hE0).mono ?_
 rintro e W1 (⟨h0,_⟩ | ⟨_,rfl,hE1⟩)
 ·rw [← Hz.out] at h0
  exact absurd h0 he
 rw [← Hz.out]
 have hEr:=hE0.trans hE1
 clear hop
 go_wp2_with fail
 go_ret2
 exact ⟨rfl,hEr⟩
set_option maxHeartbeats 8000000 in
theorem fkiv_walk {w:World} {p:Int} {u:Nat→Nat→Int} {o:Nat→Int} {vx:Value} {x:List Int} (hp:0≤p∧p≤255) (hu : ∀ i k,-128≤u i k∧u i k≤127) (ho : ∀ i,-128≤o i∧o i≤127) (hx:RowR w vx x) (hL:Laid w) :
  Calls Tryz.prog 5 #[plv p u o,vx] w fun e w'=>e = .returned (.bool true)∧Ext w w':=by
 have hmk:=hid (fun W (hW:Ext w W)=>make36_any (w:=W) hp hu ho (hL.ext hW))
 have hkn:=hid (fun W (hW:Ext w W)=>known36_any (w:=W) (hL.ext hW))
 have HL:=hid hL
 obtain ⟨sx,nx,cx,rfl,hnx⟩ : ∃ sx nx cx,vx = .slice sx nx cx∧nx=x.length:=by
  obtain ⟨sx,_,_,cx,e,_⟩:=hx
  exact ⟨sx,_,cx,e,rfl⟩
 have Hx:=hid hx
 have Hnx:=hid hnx
 clear hp hu ho hx hL hnx
 go_enter Tryz.func5,Tryz.ntmps5
 go_wp2_with fail
 refine (hmk.out _ ((Ext.refl w).alloc _)).mono ?_
 rintro e X ⟨cp,cu,gm,sp,vo,f,rfl,⟨so,no,co,rfl⟩,hE1,hB⟩
 have EX:Ext w X:=((Ext.refl w).alloc _).trans hE1
 obtain ⟨n,hn⟩ : ∃ n,n=(pr36 p).length:=⟨_,rfl⟩
 obtain ⟨m,hm⟩ : ∃ m,m=n-1:=⟨_,rfl⟩
 rw [← hn, ← hm] at hB ⊢
 have HB:=hid hB
 have hbox:=box3 X 60 (.slice sp n cp) (.slice (some ⟨gm,0,none⟩) m cu) (.slice so no co)
 have eA:Ext X (X.alloc (.cells #[.slice sp n cp,.slice (some ⟨gm,0,none⟩) m cu,.slice so no co] 60)):=(Ext.refl X).alloc _
 obtain ⟨a0,a1,a2⟩:=cell3 hbox
 clear hn hm hB hbox hE1 hmk
 go_upto_region 2 with fail
 generalize X.alloc (.cells #[.slice sp n cp,.slice (some ⟨gm,0,none⟩) m cu,.slice so no co] _)=Y at *
 have EY:=EX.trans eA
 go_wp2_with fail
 refine (hkn.out _ EY).mono ?_
 rintro e Z ⟨rfl,hEZ⟩
 have EZ:=EY.trans hEZ
 cases f
 ·go_wp2_with fail
  refine (hkn.out _ EZ).mono ?_
  rintro e Z2 ⟨rfl,hE2⟩
  go_wp2_with fail
  go_ret
  exact ⟨rfl,EZ.trans hE2⟩
 ·by_cases h8:(8:Int)<(nx:Int)
  ·go_wp2_with fail
   refine (hkn.out _ EZ).mono ?_
   rintro e Z2 ⟨rfl,hE2⟩
   go_wp2_with fail
   go_ret
   exact ⟨rfl,EZ.trans hE2⟩
  ·have a0:=hEZ.cell a0
   have a1:=hEZ.cell a1
   have a2:=hEZ.cell a2
   have hF:=hid ((HB.out rfl).ext (eA.trans hEZ))
   have hxZ:=hid (Hx.out.ext EZ)
   have hPl:=hF.out.hPl
   have hn23:=hF.out.hB.hn
   have hmc:=hid (mcheck_any (w:=Z) hF.out.hP (by omega) (by omega) hF.out.hpr.sm hF.out.hpr.inc hxZ.out)
   rw [hPl] at hmc
   obtain ⟨z,hz⟩ : ∃ z,z=mzE n x:=⟨_,rfl⟩
   have Hz:=hid hz
   rw [← hz] at hmc
   clear hPl hn23 hz
   go_wp2_with fail
   refine hmc.out.mono ?_
   rintro e Z1 ⟨rfl,hE1⟩
   have a0:=hE1.cell a0
   have a1:=hE1.cell a1
   have a2:=hE1.cell a2
   have E1:=EZ.trans hE1
   have hF1:=hid (hF.out.ext hE1)
   have hx1:=hid (hxZ.out.ext hE1)
   clear hF hxZ hmc
   by_cases hz0:z=0
   ·have hzb:(z==0)=true:=by simp [hz0]
    subst hz0
    go_wp2_with fail
    go_ret
    exact ⟨rfl,E1⟩
   ·have hzb:(z==0)=false:=by simp [hz0]
    have hzz:(z==z)=true:=by simp
    have he:=hid (show mzE n x≠0 by rw [← Hz.out]; exact hz0)
    go_wp2_with fail
    refine (degree_err hF1.out hx1.out he.out (HL.out.ext E1)).mono ?_
    rintro e Z2 ⟨rfl,hE2⟩
    have a0:=hE2.cell a0
    have a1:=hE2.cell a1
    have a2:=hE2.cell a2
    have E2:=E1.trans hE2
    have hF2:=hid (hF1.out.ext hE2)
    have hx2:=hid (hx1.out.ext hE2)
    rw [← Hz.out]
    clear hF1 hx1
    go_wp2_with fail
    refine (reduce_err hF2.out hx2.out he.out (HL.out.ext E2)).mono ?_
    rintro e Z3 ⟨rfl,hE3⟩
    have a0:=hE3.cell a0
    have a1:=hE3.cell a1
    have a2:=hE3.cell a2
    have E3:=E2.trans hE3
    have hF3:=hid (hF2.out.ext hE3)
    have hx3:=hid (hx2.out.ext hE3)
    rw [← Hz.out]
    clear hF2 hx2
    go_wp2_with fail
    refine (has_err hF3.out hx3.out he.out (HL.out.ext E3)).mono ?_
    rintro e Z4 ⟨rfl,hE4⟩
    have a0:=hE4.cell a0
    have a1:=hE4.cell a1
    have a2:=hE4.cell a2
    have E4:=E3.trans hE4
    have hF4:=hid (hF3.out.ext hE4)
    have hx4:=hid (hx3.out.ext hE4)
    rw [← Hz.out]
    clear hF3 hx3
    go_wp2_with fail
    refine (coordinates_err hF4.out hx4.out he.out (HL.out.ext E4)).mono ?_
    rintro e Z5 ⟨rfl,hE5⟩
    rw [← Hz.out]
    have E5:=E4.trans hE5
    go_wp2_with fail
    go_ret
    exact ⟨rfl,E5⟩
end Go.Proofs.YtmhfccigejcphaaGreatDoor
namespace Go.Proofs.YtmhfccigejcphaaGreatDoor
open Go.ChangeShapes Go.WideShapes Go.ChangeAt Go.WideMaps Go.WideElems Go.RowKit Go.Deep
theorem fr_own:ownKnob Tryz.prog.godebug=none:=by kernel_rfl
theorem fr_laidOut:laidOutB Tryz.prog=true:=by kernel_rfl
theorem fr_pow : Tryz.prog.globalNamed "internal/strconv.uint64pow10" = some 2 := by kernel_rfl
theorem fr_powT:(Tryz.prog.globals[2]?).map (·.type)=some 353:=by kernel_rfl
theorem fr_rng : Tryz.prog.globalNamed "strconv.ErrRange" = some 1 := by kernel_rfl
theorem fr_rngT:(Tryz.prog.globals[1]?).map (·.type)=some 182:=by kernel_rfl
theorem fr_c20:Tryz.prog.cellsOf 353=20:=by kernel_rfl
theorem fr_cu:Tryz.prog.cellsOf 213=1:=by kernel_rfl
theorem fr_cE:Tryz.prog.cellsOf 350=1:=by kernel_rfl
theorem fr_cS:Tryz.prog.cellsOf 9=1:=by kernel_rfl
theorem fr_cI:Tryz.prog.cellsOf 3=1:=by kernel_rfl
theorem fr_star : "*" ++ "errors.errorString" = "*errors.errorString" := by decide
theorem fr_ptr (u : TypeId) (h : Tryz.prog.typeName? 3 u = some "*errors.errorString") : u = 348 :=
 typeName_ptr_named (nm := "errors.errorString") (by rw [fr_star]; kernel_rfl) (by kernel_rfl) (by decide) u (by rw [fr_star]; exact h)
abbrev fr_list : List (String × DataW Unit) := [("math/bits.deBruijn32tab", Rows.laid_math_bits_deBruijn32tab), ("math/bits.deBruijn64tab", Rows.laid_math_bits_deBruijn64tab), ("internal/strconv.uint64pow10", Rows.laid_internal_strconv_uint64pow10), ("strconv.ErrRange", Rows.laid_strconv_ErrRange), ("strconv.ErrSyntax", Rows.laid_strconv_ErrSyntax)]
theorem fr_tab:(Rows.laid_internal_strconv_uint64pow10:DataW Unit)=Lib.tabData .u64 Lib.pow10Tab:=by kernel_rfl
theorem laid_of {W:World} (h:laidMetH Tryz.prog fr_list W):Laid W:=by
 rw [MakeChecks.laidMetH_plain _ _ _ (by kernel_rfl)] at h
 have h3:=h.tail.tail
 rw [fr_tab] at h3
 refine ⟨Lib.tabIs_of_head fr_pow fr_powT Tryz.underlying353 Tryz.underlying213 fr_cu fr_c20 h3,?_⟩
 obtain ⟨a,s,hv,_⟩:=laid_sentinel h3.tail fr_rng fr_rngT Tryz.underlying182 fr_ptr Tryz.underlying348 Tryz.underlying350 rfl rfl Tryz.underlying9 fr_cE fr_cS
 exact ⟨_,_,hv⟩
theorem door_met (os:Os) (args:Array Value):laidMetH Tryz.prog fr_list ((World.doorLaid Tryz.prog 400 os).forCall (fun _ _=>0) ⟨#[],args,[]⟩).memory :=
 laidMetH_of_parts3 (fuel:=8) (laidMet_of_run' 8 (by kernel_rfl) (by kernel_rfl)) (by kernel_rfl) (by kernel_rfl)
theorem row_open {W:World} {A:Option Addr} {L C:Nat} {Z:List Int} {base:Nat} (h1:L≤C) (h2:Z.length=C) (h3:A=none→C=0) (h4 : ∀ a',A=some a'→base≤a'.block ∧ ∀ c,c<C→W.cell? (a'.add c)=some (.int .i64 (Z.getD c 0))):RowR W (.slice A L C) (Z.take L):=by
 have hl:(Z.take L).length=L:=by rw [List.length_take]; omega
 cases A with
 | none =>
  have hC:=h3 rfl
  refine ⟨none,0,0,C,by rw [hl],by rw [hl]; exact h1,fun h => ?_,fun i x hx => ?_⟩
  ·rw [is_length,hl] at h; omega
  ·have:=(List.getElem?_eq_some_iff.1 hx).1
   rw [is_length,hl] at this; omega
 | some a =>
  obtain ⟨_,hc⟩:=h4 a rfl
  have hsp:0<L→a.spot=none:=fun h=>by simpa [Addr.add] using World.cell?_spot (hc 0 (by omega))
  obtain ⟨b,o,sp⟩:=a
  refine ⟨some ⟨b,o,sp⟩,b,o,C,by rw [hl],by rw [hl]; exact h1,fun h => ?_,fun i x hx => ?_⟩
  ·rw [is_length,hl] at h
   have:=hsp h
   simp at this
   rw [this]
  ·have hi:=(List.getElem?_eq_some_iff.1 hx).1
   rw [is_length,hl] at hi
   have:=hsp (by omega)
   simp at this
   subst this
   rw [is_get (by rw [hl]; exact hi)] at hx
   have e:=Option.some.inj hx
   rw [← e, ← add_plain,hc i (by omega),List.getElem_take,getD_get (by omega)]
theorem fr_c8:Tryz.prog.cellsOf 51=1:=by kernel_rfl
theorem take_one {l:List Value} {k:Nat} {x:Value} (h:(l.drop k).take 1=[x]):l[k]? = some x:=by
 have:=congrArg (·[0]?) h
 simpa [List.getElem?_take] using this
theorem i8_bounds {n:Int} (h:(Lit.int .i8 n).wf=true) : -128≤n∧n≤127:=by
 simp only [Lit.wf,Bool.and_eq_true,decide_eq_true_eq] at h
 have e1:IntKind.i8.min = -128:=by rfl
 have e2:IntKind.i8.max=127:=by rfl
 omega
theorem u8_bounds {n:Int} (h:(Lit.int .u8 n).wf=true):0≤n∧n≤255:=by
 simp only [Lit.wf,Bool.and_eq_true,decide_eq_true_eq] at h
 have e1:IntKind.u8.min=0:=by rfl
 have e2:IntKind.u8.max=255:=by rfl
 omega
theorem i8_cells {H:Type} {enc:TypeId×Value→H} {W:World} {base:Nat} {sp:Nat→Bool} {held:Bool} {fuel n:Nat} {t:TypeId} {l:List Value} {x:DataW H×List MemPlace} (ht:Tryz.prog.underlying t=some (.array n 51))
  (h:DataW.trod enc Tryz.prog W base sp held fuel t l=some x) : ∀ j,j<n → ∃ z:Int,l[j]? = some (.int .i8 z) ∧ -128≤z∧z≤127:=by
 obtain ⟨xs,m,_,_,_,hxl,hx⟩:=DataW.trod_array ht h
 intro j hj
 have h1:=hx j hj
 rw [fr_c8,Nat.mul_one,List.getElem?_eq_getElem (by omega)] at h1
 obtain ⟨z,hz,_,hw⟩:=DataW.trod_int Tryz.underlying51 h1
 exact ⟨z,take_one hz,i8_bounds hw⟩
theorem fr_cP36:Tryz.prog.cellsOf 56=9:=by kernel_rfl
theorem fr_c33:Tryz.prog.cellsOf 52=3:=by kernel_rfl
theorem uns_cells {H:Type} {enc:TypeId×Value→H} {W:World} {base:Nat} {sp:Nat→Bool} {held:Bool} {fuel:Nat} {l:List Value} {x:DataW H×List MemPlace}
  (h:DataW.trod enc Tryz.prog W base sp held fuel 53 l=some x) : ∀ i,i<2 → ∀ j,j<3 → ∃ z:Int,l[i*3+j]? = some (.int .i8 z) ∧ -128≤z∧z≤127:=by
 obtain ⟨xs,m,_,_,_,hxl,hx⟩:=DataW.trod_array Tryz.underlying53 h
 intro i hi j hj
 have h1:=hx i hi
 rw [fr_c33,List.getElem?_eq_getElem (by omega)] at h1
 obtain ⟨z,hz,hb⟩:=i8_cells Tryz.underlying52 h1 j hj
 rw [List.getElem?_take,if_pos (by omega),List.getElem?_drop] at hz
 exact ⟨z,hz,hb⟩
def iv8 (v:Option Value):Int:=match v with
 | some (.int _ z)=>if -128≤z∧z≤127 then z else 0
 | _=>0
theorem iv8_b (v:Option Value) : -128≤iv8 v∧iv8 v≤127:=by
 unfold iv8
 split
 ·split <;> omega
 ·omega
theorem iv8_of {v:Option Value} {z:Int} (h:v=some (.int .i8 z)) (hb : -128≤z∧z≤127):v=some (.int .i8 (iv8 v)):=by
 subst h
 have:iv8 (some (.int .i8 z))=z:=by unfold iv8; simp [hb]
 rw [this]
theorem list9 {l:List Value} {a b c d e f g h i:Value} (hl:l.length=9) (h0:l[0]? = some a) (h1:l[1]? = some b) (h2:l[2]? = some c) (h3:l[3]? = some d) (h4:l[4]? = some e) (h5:l[5]? = some f) (h6:l[6]? = some g) (h7:l[7]? = some h) (h8:l[8]? = some i):l=[a,b,c,d,e,f,g,h,i]:=by
 refine List.ext_getElem? fun n => ?_
 match n with
 | 0=>exact h0
 | 1=>exact h1
 | 2=>exact h2
 | 3=>exact h3
 | 4=>exact h4
 | 5=>exact h5
 | 6=>exact h6
 | 7=>exact h7
 | 8=>exact h8
 | n+9=>rw [List.getElem?_eq_none (by omega),List.getElem?_eq_none (by simp)]
theorem plan36_open {H:Type} {enc:TypeId×Value→H} {W:World} {base:Nat} {sp:Nat→Bool} {held:Bool} {fuel:Nat} {cs:Array Value} {x:DataW H×List MemPlace} (hs:cs.size=9)
  (h:DataW.trod enc Tryz.prog W base sp held fuel 56 cs.toList=some x) : ∃ (p:Int) (u:Nat→Nat→Int) (o:Nat→Int),Value.agg cs=plv p u o∧(0≤p∧p≤255)∧(∀ i k,-128≤u i k∧u i k≤127) ∧ ∀ i,-128≤o i∧o i≤127:=by
 obtain ⟨xs,n,_,_,_,hxl,hx⟩:=DataW.trod_struct Tryz.underlying56 h
 have hx3:xs.length=3:=hxl
 have h0:=hx 0 _ rfl
 have h1:=hx 1 _ rfl
 have h2:=hx 2 _ rfl
 rw [List.getElem?_eq_getElem (by omega)] at h0 h1 h2
 have h0':DataW.trod enc Tryz.prog W base sp held n 5 ((cs.toList.drop 0).take 1)=some xs[0]:=h0
 have h1':DataW.trod enc Tryz.prog W base sp held n 53 ((cs.toList.drop 1).take 6)=some xs[1]:=h1
 have h2':DataW.trod enc Tryz.prog W base sp held n 54 ((cs.toList.drop 7).take 2)=some xs[2]:=h2
 obtain ⟨a,ha,_,wa⟩:=DataW.trod_int Tryz.underlying5 h0'
 have hu:=uns_cells h1'
 have ho:=i8_cells Tryz.underlying54 h2'
 have hl:cs.toList.length=9:=by simpa using hs
 have ku : ∀ i k,i<2→k<3→cs.toList[1+(i*3+k)]? = some (.int .i8 (iv8 cs.toList[1+(i*3+k)]?)):=fun i k hi hk=>by
  obtain ⟨z,hz,hb⟩:=hu i hi k hk
  rw [List.getElem?_take,if_pos (by omega),List.getElem?_drop] at hz
  exact iv8_of hz hb
 have ko : ∀ i,i<2→cs.toList[7+i]? = some (.int .i8 (iv8 cs.toList[7+i]?)):=fun i hi=>by
  obtain ⟨z,hz,hb⟩:=ho i hi
  rw [List.getElem?_take,if_pos (by omega),List.getElem?_drop] at hz
  exact iv8_of hz hb
 refine ⟨a,fun i k=>iv8 cs.toList[1+(i*3+k)]?,fun i=>iv8 cs.toList[7+i]?,?_,u8_bounds wa,fun i k=>iv8_b _,fun i=>iv8_b _⟩
 have:=list9 hl (take_one ha) (ku 0 0 (by omega) (by omega)) (ku 0 1 (by omega) (by omega)) (ku 0 2 (by omega) (by omega)) (ku 1 0 (by omega) (by omega)) (ku 1 1 (by omega) (by omega)) (ku 1 2 (by omega) (by omega)) (ko 0 (by omega)) (ko 1 (by omega))
 have h3:=congrArg List.toArray this
 rw [Array.toArray_toList] at h3
 exact congrArg Value.agg h3
theorem introw_open {H:Type} {enc:TypeId×Value→H} {W:World} {base:Nat} {held:Bool} {fuel:Nat} {v:Value} {x:DataW H×List MemPlace} (hv:v.cells.toList=[v])
  (h:DataW.trod enc Tryz.prog W base (fun _=>true) held fuel 30 v.cells.toList=some x) : ∃ r,RowR W v r:=by
 rw [hv] at h
 rcases open_ints Tryz.underlying30 Tryz.underlying3 fr_cI h with ⟨hcs,_⟩ | ⟨a,len,cap,zs,hcs,hb,hl,_,hz,_,hc,_⟩
 ·obtain rfl:v = .slice none 0 0:=by simpa using hcs
  exact ⟨[],row_open (base:=0) (Z:=[]) (Nat.le_refl 0) rfl (fun _=>rfl) (fun a' h=>by cases h)⟩
 ·obtain rfl:v = .slice (some a) len cap:=by simpa using hcs
  rw [if_pos rfl] at hz
  exact ⟨zs.take len,row_open (base:=base) hl hz (fun h=>by cases h) (fun a' h=>by cases h; exact ⟨hb,fun c hcc=>hc c (by omega)⟩)⟩
set_option maxHeartbeats 2000000 in
theorem fokkerIntervals_lifted (os:Os) (started:os.Started) (H:Type) (enc:TypeId×Value→H) :
  ReturnsInHanded {} Tryz.checked os 5 .any (fun w args=>(Rows.fokkerIntervalsSpec.pre enc Tryz.prog Tryz.f5 [] false w args∧laidMetH Tryz.prog fr_list w)∧sizedMet enc Tryz.prog Tryz.f5 (OpenSpec.ofChange Rows.fokkerIntervalsSpec) false w args)
   (Rows.fokkerIntervalsSpec.post enc Tryz.prog Tryz.f5 false true false false):=by
 refine returnsInHanded_of_change_and (C:=Tryz.checked) (X:=fun w _=>laidMetH Tryz.prog fr_list w) (fun _ _ _ hh h=>h.of_heap hh) fr_own started (by kernel_rfl) Tryz.func5
  (ChangeSpec.witness_shaped (enc:=enc) (C:=Tryz.checked) (os:=os) (X:=fun w _=>laidMetH Tryz.prog fr_list w) false (World.doorLaid Tryz.prog 400 os) #[.agg #[.int .u8 0,.int .i8 0,.int .i8 0,.int .i8 0,.int .i8 0,.int .i8 0,.int .i8 0,.int .i8 0,.int .i8 0],.slice none 0 0] 8 rfl (World.shaped_of_RefB (by kernel_rfl) (by kernel_rfl)) (by kernel_rfl) (by kernel_rfl) (by kernel_rfl) (door_met os _)) ?_
 intro W base args ds gs before hval0 hW _ _ hL _
 have hval : ∀ (j:Nat) t v,Tryz.f5.params[j]? = some t→args[j]? = some v→Value.okWide Tryz.prog W .any base t v:=hval0
 have hW':=hW
 obtain ⟨p,q,hA0,hV,rfl,hfz,hnd⟩:=hW
 have hA:DataW.TrodAll enc Tryz.prog W 0 (fun _=>true) true Tryz.f5.params.toList args.toList ds p:=hA0
 rw [Tryz.params5] at hA hval
 obtain ⟨v0,v1,d0,d1,p0,p1,rfl,rfl,rfl,h0,h1⟩:=trodAll_two hA
 obtain ⟨rfl,rfl⟩:=trodVars_none hV
 obtain ⟨cs0,rfl,hs0⟩:=okWide_struct Tryz.underlying56 (hval 0 56 v0 rfl rfl)
 rw [fr_cP36] at hs0
 obtain ⟨a1,len1,cap1,rfl⟩:=okWide_slice Tryz.underlying30 (hval 1 30 v1 rfl rfl)
 have h0k:=h0
 have h1k:=h1
 obtain ⟨fuel0,hf0⟩:=h0
 obtain ⟨pp0,pu0,po0,hPv0,hp0,hu0,ho0⟩:=plan36_open hs0 hf0
 rw [hPv0] at h0k hW' ⊢
 obtain ⟨fuel1,hf1⟩:=h1
 obtain ⟨r1,hR1⟩:=introw_open (by simp [Value.cells]) hf1
 clear hA0 hval0 hf0 hf1
 simp only [List.append_nil] at hW'
 have hlt : ∀ z∈p0++p1,z.block<W.heap.size:=fun z hz=>by simpa using hW'.lt z hz
 refine (fkiv_walk hp0 hu0 ho0 hR1 (laid_of hL)).mono ?_
 rintro e W' ⟨rfl,hE⟩
 have e1:Rows.fokkerIntervalsSpec.fn H ([d0,d1]++[]) = { results:=[.lit (.bool true)],args:=[d0,d1] }:=rfl
 refine ⟨_,rfl,_,_,_,[],p0++p1,[],hW',?_,?_,?_,hE.frame _,fun h=>by cases h⟩
 ·rw [e1]; exact trodAll_mk1 (shut_bool Tryz.underlying4 true)
 ·rw [e1]; exact trodAll_mk2 (Below.trod fr_laidOut (by kernel_rfl) (of_decide_eq_true (by kernel_rfl)) h0k hE fun x hx=>hlt x (by simp [hx])) (Below.trod fr_laidOut (by kernel_rfl) (of_decide_eq_true (by kernel_rfl)) h1k hE fun x hx=>hlt x (by simp [hx]))
 ·rw [e1]; rfl
set_option maxHeartbeats 20000000 in
theorem fokkerIntervals_holds:Rows.FokkerIntervalsSaid :=
 OpenClaim.holds_of_wide 5 Tryz.f5 rfl rfl rfl rfl rfl rfl rfl ⟨rfl,rfl,rfl,rfl,rfl⟩ rfl rfl rfl rfl rfl (by as_aux_lemma=>kernel_rfl) Tryz.func5 (by
   unfold joinedFacts
   simp only [Bool.and_eq_true]
   repeat' apply And.intro
   all_goals (as_aux_lemma=>kernel_rfl))
  (of_decide_eq_true (by kernel_rfl)) (by unfold Func.isWrapper; first | (rw [if_pos (by decide +kernel)]; kernel_rfl) | (rw [if_neg (by decide +kernel)]; exact ⟨rfl,rfl⟩))
  (fun os started H enc _=>fokkerIntervals_lifted os started H enc)
set_option maxHeartbeats 20000000 in
theorem fokkerIntervals_card:Rows.FokkerIntervalsCardSaid :=
 Claim7.holds_tied_plain_at .later [] [.data,.data,.data,.sentinel,.sentinel] true Rows.fokkerIntervalsCard.stood.harness true
  fokkerIntervals_holds (fun _ h=>by cases h) (by as_aux_lemma=>kernel_rfl) (fun _ h=>by cases h) fokkerIntervals_row_tie rfl ⟨rfl,rfl⟩ (by as_aux_lemma=>kernel_rfl) rfl
  (fun f fn hf hfn=>by
   obtain rfl : f = 5 := Option.some.inj ((show Tryz.prog.funcNamed "schisma/schismalaw36.FokkerIntervals" = some 5 by as_aux_lemma => kernel_rfl).symm.trans hf) |>.symm
   obtain rfl:fn=Tryz.f5:=(Option.some.inj (Tryz.func5.symm.trans hfn)).symm
   exact ⟨by as_aux_lemma=>kernel_rfl,fun j t ht=>by
    rw [Tryz.params5] at ht
    have hm:t∈[56,30]:=by simpa using Array.mem_of_getElem? ht
    have hall:([56,30].all fun u => !Tryz.prog.wantsStandIn u)=true:=by as_aux_lemma=>kernel_rfl
    exact (show Tryz.prog.wantsStandIn t=false by simpa using List.all_eq_true.1 hall t hm)⟩)
  (by as_aux_lemma=>kernel_rfl)
#print axioms fokkerIntervals_card
end Go.Proofs.YtmhfccigejcphaaGreatDoor
