/- Part 41 of the proof of the claim: contracts of the functions that it reaches, and plain laws; no condition. -/
import Derived.Test.YtjnpakablgommaaGreatDoorV40
import Derived.Test.YtjnpakablgommaaGreatDoorV26
import Derived.Test.YtjnpakablgommaaGreatDoorV31
import Derived.Test.YtjnpakablgommaaGreatDoorV35
import Derived.Test.YtjnpakablgommaaGreatDoorV34
set_option maxRecDepth 100000
namespace Go.Proofs.YtjnpakablgommaaGreatDoor
open Go.RowKit Go.Sort
theorem number13_one {w:World} (hL:Laid w):Calls Tryz.prog 153 #[.int .i64 1] w fun e w'=>e = .returned (.agg #[.string ⟨#[49]⟩,.string ⟨#[49]⟩])∧Ext w w':=by
 have h:=number13_any (n:=1) (by omega) hL
 have hv:RV ((1:Int):Rat) = .agg #[.string ⟨#[49]⟩,.string ⟨#[49]⟩]:=by
  show Value.agg #[I (((1:Int):Rat)).num,I ((((1:Int):Rat)).den:Int)]=_
  rw [show (((1:Int):Rat)).num=1 from rfl,show (((((1:Int):Rat)).den:Nat):Int)=1 from rfl]
  unfold I S; rw [itoa_one]
 rw [hv] at h; exact h
theorem itoa_len64 {z:Int} (h:I64 z):(Lib.itoa z).length≤21:=by
 have h1:=itoa_len z
 have h2:nd z≤19:=nDigits_le (u:=z.natAbs) (k:=19) (by unfold I64 at h; omega) (by omega)
 omega
theorem rat_zero_num {r:Rat}:r=0↔r.num=0:=⟨fun h=>by rw [h]; rfl,fun h=>by
 have:=rat_parts r
 rw [h] at this
 grind⟩
theorem rat_one_iff {r:Rat}:r=1↔r.num=1∧r.den=1:=⟨fun h=>by rw [h]; exact ⟨rfl,rfl⟩,fun h=>Rat.ext h.1 h.2⟩
set_option maxHeartbeats 4000000 in
theorem szText_any {w:World} {pa:Option Addr} {np cp:Nat} {v:Value} {P:List Int} {l:List Rat} (hP:RowR w (.slice pa np cp) P) (hpc : ∀ W,Ext w W→Calls Tryz.prog 48 #[.slice pa np cp] W fun e w'=>e = .returned (.int .i64 0)∧Ext W w') (hs:SzR w v l) (hl:l.length=np) (hb:ShQ l) (h64 : ∀ z∈P,I64 z) (h1000:np≤1000) (hL:Laid w) :
  Calls Tryz.prog 95 #[.slice pa np cp,v] w fun e w'=>e = .returned (.tuple #[.string (szTx P l),.int .i64 0])∧Ext w w':=by
 have hck:=Lib.hid (szCheck_all (pa:=pa) (cp:=cp) hpc hs hl (shQ_nd hb (by omega)) (by omega) hL)
 rw [szE_sh hb] at hck
 obtain ⟨pa',gp,op,cp',ep,hpcap,hSp⟩:=hP
 injection ep with ep1 ep2 ep3
 subst ep1 ep3
 have HSp:=Lib.hid hSp
 have Hnp:=Lib.hid ep2
 obtain ⟨sa,gb,go,cap,rfl,hc,ha,hr⟩:=hs
 have Hr:=Lib.hid hr
 have Ha:=Lib.hid ha
 have Hb:=Lib.hid hb
 have H64:=Lib.hid h64
 have HL:=Lib.hid hL
 have Hl:=Lib.hid hl
 have Hle:=Lib.hid (szX_le P l)
 have Hlen:=Lib.hid (szX_len (P:=P) hb (fun k=>by
  rw [List.getD_eq_getElem?_getD]
  by_cases hk:k<P.length
  ·rw [List.getElem?_eq_getElem hk]; exact itoa_len64 (h64 _ (List.getElem_mem hk))
  ·rw [List.getElem?_eq_none (by omega)]; show (Lib.itoa 0).length≤21; rw [itoa_zero]; decide))
 have Htx:=Lib.hid (show szTx P l=if szX P l l.length=[] then ⟨#[49]⟩ else joinA (szX P l l.length) [32] from rfl)
 generalize szTx P l=tx at *
 rw [hl] at hck hc ⊢
 rw [hl] at Htx
 clear hr ha hb hL hl h64 hSp ep2 hpc hc hpcap
 go_enter Tryz.func95,Tryz.ntmps95
 go_wp2_with fail
 refine hck.out.mono ?_
 rintro e w0 ⟨rfl,hE0⟩
 clear hck
 go_wp2_with fail
 go_loopw [7,19] (fun u iv wr => ∃ i:Nat,i≤np∧iv = .int .i64 i∧Hid (StrO w.heap.size wr u (szX P l i))∧Ext w wr) (fun _ iv _=>np-(intOf iv).toNat)
 case atStart=>exact ⟨0,by omega,by go_num,Lib.hid (StrO.nil _ _),hE0⟩
 case round =>
  obtain ⟨i,hi,rfl,HV,hE⟩:=hrel
  generalize wr=X at *
  by_cases hlt:i<np
  ·have hii:(i:Int)<(np:Int):=by omega
   have hil:i<l.length:=by rw [Hl.out]; exact hlt
   have hip:i<P.length:=by rw [← Hnp.out]; exact hlt
   obtain rfl:=Ha.out (by omega)
   obtain rfl:=HSp.out.addr (by simp; omega)
   obtain ⟨k0,k1⟩:=Hr.out i hil
   have k2:=HSp.out.cell i (.int .i64 P[i]) (is_get hip)
   have y0:=hE.cell k0
   have y1:=hE.cell k1
   have y2:=hE.cell k2
   have hbr:=Hb.out l[i] (List.getElem_mem hil)
   have hp64:=H64.out P[i] (List.getElem_mem hip)
   have Hsn:Hid (szX P l (i+1)=szX P l i++(if l[i]=0 then [] else [⟨(tmX P[i] l[i]).toArray⟩])):=Lib.hid (by
    rw [szX,List.getD_eq_getElem?_getD,List.getElem?_eq_getElem hil,List.getD_eq_getElem?_getD,List.getElem?_eq_getElem hip]; rfl)
   obtain ⟨r,hr⟩ : ∃ r,r=l[i]:=⟨_,rfl⟩
   obtain ⟨p,hp⟩ : ∃ p,p=P[i]:=⟨_,rfl⟩
   rw [← hr] at y0 y1 hbr Hsn
   rw [← hp] at y2 hp64 Hsn
   have hit:=Lib.hid (fun W (hW:Ext X W)=>Itoa_any (n:=p) hp64.1 hp64.2 (HL.out.ext (hE.trans hW)))
   have hft:Hid (∀ W,Calls Tryz.prog 154 #[.agg #[I r.num,I r.den]] W fun e w'=>e = .returned (S (frT r))∧Ext W w'):=Lib.hid (fun W=>fText_any (r:=r) ⟨by omega,by omega⟩ W)
   have hsg:=Lib.hid (fun W=>Sign_any r.num W)
   have hn1:=Lib.hid (fun W (hW:Ext X W)=>number13_one (HL.out.ext (hE.trans hW)))
   have lf:=frT_len hbr
   have lp:=itoa_len64 hp64
   have dA:=(Ext.refl X).alloc (.cells #[I r.num,I r.den] 81)
   have hOn:=two_alloc X 81 (I r.num) (I r.den)
   have z0:=hOn.cell (j:=0) (by simp)
   have z1:=hOn.cell (j:=1) (by simp)
   simp only [List.getElem_cons_zero,List.getElem_cons_succ] at z0 z1
   have e0:=itoa_eq_zero r.num
   have e1:=itoa_eq_1 r.num
   have e2:=itoa_eq_1 (r.den:Int)
   have hXs:=hE.size
   have HXs:=Lib.hid hXs
   have hll:=Lib.hid (Hle.out i)
   have Htm:Hid (tmX p r=if r=1 then Lib.itoa p else if r.den=1∧0<r.num then Lib.itoa p++94::frT r else Lib.itoa p++94::40::(frT r++[41])):=Lib.hid rfl
   have Hz:=Lib.hid (rat_zero_num (r:=r))
   have H1:=Lib.hid (rat_one_iff (r:=r))
   clear k0 k1 k2 hbr hp64 hr hp hOn hil hip hXs
   unfold I S at y0 y1 z0 z1 hft hsg hit dA
   obtain ⟨zn,hzn⟩ : ∃ z,z=r.num:=⟨_,rfl⟩
   obtain ⟨zd,hzd⟩ : ∃ z,z=r.den:=⟨_,rfl⟩
   simp only [← hzn, ← hzd] at y0 y1 z0 z1 hft hsg hit e0 e1 e2 Htm H1 Hz dA
   generalize Lib.itoa zn=ln at *
   generalize Lib.itoa (zd:Int)=ld at *
   generalize frT r=ft at *
   generalize Lib.itoa p=tp at *
   generalize tmX p r=tm at *
   clear hzn hzd
   obtain ⟨b9,hb9⟩ : ∃ b,b=X.heap.size:=⟨_,rfl⟩
   have Hb9:=Lib.hid hb9
   have y3:=dA.cell y2
   rw [← hb9] at z0 z1
   have Hi1:=Lib.hid (fun (h:(i:Int)<np)=>show (i:Int)+1≤np by omega)
   clear hb9
   by_cases hz0:zn=0
   ·rw [decide_eq_true hz0] at e0
    have Hsn:=Lib.hid (show szX P l (i+1)=szX P l i by rw [Hsn.out,if_pos (Hz.out.2 hz0),List.append_nil])
    clear hz0 hft hsg hn1 e1 e2 Htm H1 Hz
    go_wp2_with fail
    rw [← Hb9.out]
    generalize X.alloc (.cells #[.string ⟨ln.toArray⟩,.string ⟨ld.toArray⟩] 81)=XA at *
    refine (hit.out _ dA).mono ?_
    rintro e XB ⟨rfl,hB⟩
    have eB:=dA.trans hB
    replace z0:=hB.cell z0
    replace z1:=hB.cell z1
    clear hit hB dA y0 y1 y2 y3
    go_wp2_with fail
    go_roundw
    case rel=>exact ⟨i+1,by omega,by go_num,Lib.hid (by rw [Hsn.out]; exact HV.out.ext eB),hE.trans eB⟩
    case measure=>simp [intOf] <;> omega
   ·rw [decide_eq_false hz0] at e0
    have Hsn:=Lib.hid (show szX P l (i+1)=szX P l i++[⟨tm.toArray⟩] by rw [Hsn.out,if_neg (fun h=>hz0 (Hz.out.1 h))])
    go_wp2_with fail
    rw [← Hb9.out]
    generalize X.alloc (.cells #[.string ⟨ln.toArray⟩,.string ⟨ld.toArray⟩] 81)=XA at *
    refine (hit.out _ dA).mono ?_
    rintro e XB ⟨rfl,hB⟩
    have eB:=dA.trans hB
    replace z0:=hB.cell z0
    replace z1:=hB.cell z1
    clear hit hB dA y0 y1 y2 y3
    by_cases hr1:zn=1∧zd=1
    ·obtain ⟨h1,h2⟩:=hr1
     rw [decide_eq_true h1] at e1
     rw [decide_eq_true (show (zd:Int)=1 by omega)] at e2
     obtain rfl:ln=[49]:=by simpa using e1
     obtain rfl:ld=[49]:=by simpa using e2
     have Htm:=Lib.hid (show tm=tp by rw [Htm.out,if_pos (H1.out.2 ⟨h1,h2⟩)])
     clear e0 e1 e2 h1 h2 H1 Hz hz0 hft hsg
     go_wp2_with fail
     have d0:Ext XB XB.drew:=(Ext.refl XB).drew
     refine wp_region_held_tail (S:=fun W=>Ext XB W) 3 (by kernel_rfl) (by simp) ?_
     intro inv
     generalize XB.drew=XC at *
     refine wpAnyLH_take (i:=0) (v := .agg #[.string ⟨#[49]⟩,.string ⟨#[49]⟩]) rfl (by kernel_rfl) (fun _ _ _ h=>h) (.inl ⟨by rfl,fun W hW=>by have q0:=hW.cell z0; have q1:=hW.cell z1; go_simp⟩) d0 inv ?_
     intro inv
     go_simp
     refine wpAnyLH_oneI (i:=1) rfl (by kernel_rfl) inv (fun inv K0 hK0 => ?_)
     go_simp
     refine (hn1.out _ (eB.trans d0)).mono ?_
     rintro e XD ⟨rfl,hG1⟩
     have d1:=d0.trans hG1
     refine hK0 _ _ d1 ?_
     clear hK0
     refine wpAnyLH_take (i:=2) (v := .bool true) rfl (by kernel_rfl) (fun _ _ _ h=>h) (.inl ⟨by rfl,fun W hW=>by go_simp⟩) d1 inv ?_
     intro inv
     go_simp
     refine wpAnyLH_end (by kernel_rfl) ?_
     replace z0:=d1.cell z0
     replace z1:=d1.cell z1
     have eD:=eB.trans d1
     clear inv d0 d1 hG1 hn1 eB
     have eW:Ext X XD:=eD
     generalize XD=W at *
     clear eD z0 z1
     have HVZ:=Lib.hid (HV.out.ext (eW.alloc (.cells #[Value.string (⟨tp.toArray⟩)] 9)))
     have hWs:w.heap.size≤W.heap.size:=by have:=HXs.out; have:=eW.size; omega
     go_wp2_with (at_builtin; refine app_str rfl _ _ 160 Tryz.underlying160 rfl (B:=w.heap.size) rfl HVZ.out (b:=W.heap.size) (z:=⟨tp.toArray⟩) rfl (by go_simp) (by have:=hll.out; omega) (by simp; omega) ?_; intro g9 cap9 w9 hO9 hB9 _; rw [show ((⟨tp.toArray⟩):ByteArray)=⟨tm.toArray⟩ from by rw [Htm.out]] at hO9; have HO9:=Lib.hid (show StrO w.heap.size w9 _ (szX P l (i+1)) by rw [Hsn.out]; exact hO9); have e9:=Below.trans (hE.trans (eW.alloc (.cells #[Value.string (⟨tp.toArray⟩)] 9))) hB9; clear hO9 hB9)
     go_wp2_with fail
     go_roundw
     case rel=>exact ⟨i+1,by omega,by go_num,HO9,e9⟩
     case measure=>simp [intOf] <;> omega
    ·have Htm:=Lib.hid (show tm=if zd=1∧0<zn then tp++94::ft else tp++94::40::(ft++[41]) by rw [Htm.out,if_neg (fun h=>hr1 (H1.out.1 h))])
     clear H1 Hz
     by_cases hd1:zd=1
     ·rw [decide_eq_true (show (zd:Int)=1 by omega)] at e2
      rw [decide_eq_false (fun h=>hr1 ⟨h,hd1⟩)] at e1
      obtain rfl:ld=[49]:=by simpa using e2
      have nl : ¬ ln=[49]:=by simpa using e1
      clear e1 e2 hr1
      go_wp2_with fail
      have d0:Ext XB XB.drew:=(Ext.refl XB).drew
      refine wp_region_held_tail (S:=fun W=>Ext XB W) 3 (by kernel_rfl) (by simp) ?_
      intro inv
      generalize XB.drew=XC at *
      refine wpAnyLH_take (i:=0) (v := .agg #[.string ⟨ln.toArray⟩,.string ⟨#[49]⟩]) rfl (by kernel_rfl) (fun _ _ _ h=>h) (.inl ⟨by rfl,fun W hW=>by have q0:=hW.cell z0; have q1:=hW.cell z1; go_simp⟩) d0 inv ?_
      intro inv
      go_simp
      refine wpAnyLH_oneI (i:=1) rfl (by kernel_rfl) inv (fun inv K0 hK0 => ?_)
      go_simp
      refine (hn1.out _ (eB.trans d0)).mono ?_
      rintro e XD ⟨rfl,hG1⟩
      have d1:=d0.trans hG1
      refine hK0 _ _ d1 ?_
      clear hK0
      refine wpAnyLH_take (i:=2) (v := .bool false) rfl (by kernel_rfl) (fun _ _ _ h=>h) (.inl ⟨by rfl,fun W hW=>by go_simp⟩) d1 inv ?_
      intro inv
      go_simp
      refine wpAnyLH_end (by kernel_rfl) ?_
      replace z0:=d1.cell z0
      replace z1:=d1.cell z1
      have eD:=eB.trans d1
      clear inv d0 d1 hG1 hn1 eB
      by_cases hs:0<zn
      ·have Htm:=Lib.hid (show tm=tp++94::ft by rw [Htm.out,if_pos ⟨hd1,hs⟩])
       rw [Int.sign_eq_one_of_pos hs] at hsg
       clear hs hd1 hz0
       go_wp2_with fail
       refine (hsg.out _).mono ?_
       rintro e XE ⟨rfl,hE3⟩
       replace z0:=hE3.cell z0
       replace z1:=hE3.cell z1
       replace eD:=eD.trans hE3
       clear hsg hE3
       go_wp2_with fail
       refine (hft.out _).mono ?_
       rintro e W ⟨rfl,hW⟩
       have eW:=eD.trans hW
       clear hft hW z0 z1 eD
       have HVZ:=Lib.hid (HV.out.ext (eW.alloc (.cells #[Value.string ((⟨tp.toArray⟩:ByteArray)++((⟨#[94]⟩:ByteArray)++(⟨ft.toArray⟩:ByteArray)))] 9)))
       have hWs:w.heap.size≤W.heap.size:=by have:=HXs.out; have:=eW.size; omega
       go_wp2_with (at_builtin; refine app_str rfl _ _ 160 Tryz.underlying160 rfl (B:=w.heap.size) rfl HVZ.out (b:=W.heap.size) (z:=(⟨tp.toArray⟩:ByteArray)++((⟨#[94]⟩:ByteArray)++(⟨ft.toArray⟩:ByteArray))) rfl (by go_simp) (by have:=hll.out; omega) (by simp; omega) ?_; intro g9 cap9 w9 hO9 hB9 _; rw [show (((⟨tp.toArray⟩:ByteArray)++((⟨#[94]⟩:ByteArray)++(⟨ft.toArray⟩:ByteArray))):ByteArray)=⟨tm.toArray⟩ from (by show (⟨tp.toArray⟩:ByteArray)++(⟨[94].toArray⟩++⟨ft.toArray⟩)=_; rw [ba_app,ba_app,Htm.out]; rfl)] at hO9; have HO9:=Lib.hid (show StrO w.heap.size w9 _ (szX P l (i+1)) by rw [Hsn.out]; exact hO9); have e9:=Below.trans (hE.trans (eW.alloc (.cells #[Value.string ((⟨tp.toArray⟩:ByteArray)++((⟨#[94]⟩:ByteArray)++(⟨ft.toArray⟩:ByteArray)))] 9))) hB9; clear hO9 hB9)
       go_wp2_with fail
       go_roundw
       case rel=>exact ⟨i+1,by omega,by go_num,HO9,e9⟩
       case measure=>simp [intOf] <;> omega
      ·have Htm:=Lib.hid (show tm=tp++94::40::(ft++[41]) by rw [Htm.out,if_neg (fun h=>hs h.2)])
       rw [Int.sign_eq_neg_one_of_neg (show zn<0 by omega)] at hsg
       clear hs hd1 hz0
       go_wp2_with fail
       refine (hsg.out _).mono ?_
       rintro e XE ⟨rfl,hE3⟩
       replace z0:=hE3.cell z0
       replace z1:=hE3.cell z1
       replace eD:=eD.trans hE3
       clear hsg hE3
       go_wp2_with fail
       refine (hft.out _).mono ?_
       rintro e W ⟨rfl,hW⟩
       have eW:=eD.trans hW
       clear hft hW z0 z1 eD
       have HVZ:=Lib.hid (HV.out.ext (eW.alloc (.cells #[Value.string ((⟨tp.toArray⟩:ByteArray)++((⟨#[94,40]⟩:ByteArray)++(⟨ft.toArray⟩:ByteArray)++(⟨#[41]⟩:ByteArray)))] 9)))
       have hWs:w.heap.size≤W.heap.size:=by have:=HXs.out; have:=eW.size; omega
       go_wp2_with (at_builtin; refine app_str rfl _ _ 160 Tryz.underlying160 rfl (B:=w.heap.size) rfl HVZ.out (b:=W.heap.size) (z:=(⟨tp.toArray⟩:ByteArray)++((⟨#[94,40]⟩:ByteArray)++(⟨ft.toArray⟩:ByteArray)++(⟨#[41]⟩:ByteArray))) rfl (by go_simp) (by have:=hll.out; omega) (by simp; omega) ?_; intro g9 cap9 w9 hO9 hB9 _; rw [show (((⟨tp.toArray⟩:ByteArray)++((⟨#[94,40]⟩:ByteArray)++(⟨ft.toArray⟩:ByteArray)++(⟨#[41]⟩:ByteArray))):ByteArray)=⟨tm.toArray⟩ from (by show (⟨tp.toArray⟩:ByteArray)++(⟨[94,40].toArray⟩++⟨ft.toArray⟩++⟨[41].toArray⟩)=_; rw [ba_app,ba_app,ba_app,Htm.out,List.append_assoc]; rfl)] at hO9; have HO9:=Lib.hid (show StrO w.heap.size w9 _ (szX P l (i+1)) by rw [Hsn.out]; exact hO9); have e9:=Below.trans (hE.trans (eW.alloc (.cells #[Value.string ((⟨tp.toArray⟩:ByteArray)++((⟨#[94,40]⟩:ByteArray)++(⟨ft.toArray⟩:ByteArray)++(⟨#[41]⟩:ByteArray)))] 9))) hB9; clear hO9 hB9)
       go_wp2_with fail
       go_roundw
       case rel=>exact ⟨i+1,by omega,by go_num,HO9,e9⟩
       case measure=>simp [intOf] <;> omega
     ·rw [decide_eq_false (show ¬ (zd:Int)=1 by omega)] at e2
      have nd : ¬ ld=[49]:=by simpa using e2
      have Htm:=Lib.hid (show tm=tp++94::40::(ft++[41]) by rw [Htm.out,if_neg (fun h=>hd1 h.1)])
      clear e1 hr1 hd1 hz0 hsg
      go_wp2_with fail
      have d0:Ext XB XB.drew:=(Ext.refl XB).drew
      refine wp_region_held_tail (S:=fun W=>Ext XB W) 3 (by kernel_rfl) (by simp) ?_
      intro inv
      generalize XB.drew=XC at *
      refine wpAnyLH_take (i:=0) (v := .agg #[.string ⟨ln.toArray⟩,.string ⟨ld.toArray⟩]) rfl (by kernel_rfl) (fun _ _ _ h=>h) (.inl ⟨by rfl,fun W hW=>by have q0:=hW.cell z0; have q1:=hW.cell z1; go_simp⟩) d0 inv ?_
      intro inv
      go_simp
      refine wpAnyLH_oneI (i:=1) rfl (by kernel_rfl) inv (fun inv K0 hK0 => ?_)
      go_simp
      refine (hn1.out _ (eB.trans d0)).mono ?_
      rintro e XD ⟨rfl,hG1⟩
      have d1:=d0.trans hG1
      refine hK0 _ _ d1 ?_
      clear hK0
      refine wpAnyLH_take (i:=2) (v := .bool false) rfl (by kernel_rfl) (fun _ _ _ h=>h) (.inl ⟨by rfl,fun W hW=>by by_cases hl:ln=[49] <;> go_simp⟩) d1 inv ?_
      intro inv
      go_simp
      refine wpAnyLH_end (by kernel_rfl) ?_
      replace z0:=d1.cell z0
      replace z1:=d1.cell z1
      have eD:=eB.trans d1
      clear inv d0 d1 hG1 hn1 eB
      go_wp2_with fail
      refine (hft.out _).mono ?_
      rintro e W ⟨rfl,hW⟩
      have eW:=eD.trans hW
      clear hft hW z0 z1 eD
      have HVZ:=Lib.hid (HV.out.ext (eW.alloc (.cells #[Value.string ((⟨tp.toArray⟩:ByteArray)++((⟨#[94,40]⟩:ByteArray)++(⟨ft.toArray⟩:ByteArray)++(⟨#[41]⟩:ByteArray)))] 9)))
      have hWs:w.heap.size≤W.heap.size:=by have:=HXs.out; have:=eW.size; omega
      go_wp2_with (at_builtin; refine app_str rfl _ _ 160 Tryz.underlying160 rfl (B:=w.heap.size) rfl HVZ.out (b:=W.heap.size) (z:=(⟨tp.toArray⟩:ByteArray)++((⟨#[94,40]⟩:ByteArray)++(⟨ft.toArray⟩:ByteArray)++(⟨#[41]⟩:ByteArray))) rfl (by go_simp) (by have:=hll.out; omega) (by simp; omega) ?_; intro g9 cap9 w9 hO9 hB9 _; rw [show (((⟨tp.toArray⟩:ByteArray)++((⟨#[94,40]⟩:ByteArray)++(⟨ft.toArray⟩:ByteArray)++(⟨#[41]⟩:ByteArray))):ByteArray)=⟨tm.toArray⟩ from (by show (⟨tp.toArray⟩:ByteArray)++(⟨[94,40].toArray⟩++⟨ft.toArray⟩++⟨[41].toArray⟩)=_; rw [ba_app,ba_app,ba_app,Htm.out,List.append_assoc]; rfl)] at hO9; have HO9:=Lib.hid (show StrO w.heap.size w9 _ (szX P l (i+1)) by rw [Hsn.out]; exact hO9); have e9:=Below.trans (hE.trans (eW.alloc (.cells #[Value.string ((⟨tp.toArray⟩:ByteArray)++((⟨#[94,40]⟩:ByteArray)++(⟨ft.toArray⟩:ByteArray)++(⟨#[41]⟩:ByteArray)))] 9))) hB9; clear hO9 hB9)
      go_wp2_with fail
      go_roundw
      case rel=>exact ⟨i+1,by omega,by go_num,HO9,e9⟩
      case measure=>simp [intOf] <;> omega
  ·obtain rfl:i=np:=by omega
   have hii : ¬ (i:Int)<(i:Int):=by omega
   have hxl:=Hle.out i
   obtain ⟨xs,hxs⟩ : ∃ xs,xs=szX P l i:=⟨_,rfl⟩
   have hlen:=Hlen.out i
   rw [← hxs] at HV Htx hxl hlen
   clear hxs hlt Hle Hlen
   by_cases h0:xs=[]
   ·rw [if_pos h0] at Htx
    subst h0
    obtain ⟨ua,uc,rfl⟩:=HV.out.slice
    rw [List.length_nil] at *
    go_wp2_with fail
    go_ret2
    exact ⟨ret_val (congrArg (fun z=>Value.tuple #[.string z,.int .i64 0]) Htx.out.symm),hE⟩
   ·rw [if_neg h0] at Htx
    have hpos:0<xs.length:=List.length_pos_iff.2 h0
    obtain ⟨g,cap',rfl⟩:=HV.out.sh rfl hpos
    have hj:=Lib.hid (joinA_any (s:=[32]) HV.out rfl hpos (by omega) (by
     have:=joinA_le (b:=90) [32] (r:=xs.map (·.data.toList)) (fun x hx=>by
      obtain ⟨y,hy,rfl⟩:=List.mem_map.1 hx
      exact hlen y hy)
     rw [List.length_map] at this
     simp only [List.length_cons,List.length_nil] at this
     omega))
    obtain ⟨n,hn⟩ : ∃ n,n=xs.length:=⟨_,rfl⟩
    rw [← hn] at hj hpos ⊢
    have hnI:((n:Int)==0)=false:=beq_eq_false_iff_ne.2 (by omega)
    have hnJ : ¬ (n:Int)=0:=by omega
    clear hn h0 hlen hxl
    go_wp2_with fail
    refine hj.out.mono ?_
    rintro e W ⟨rfl,hW⟩
    go_wp2_with fail
    go_ret2
    exact ⟨ret_val (congrArg (fun z=>Value.tuple #[.string z,.int .i64 0]) Htx.out.symm),hE.trans hW⟩
theorem joinNil_any {w:World} {sa:Option Addr} {c:Nat} {s:ByteArray}:Calls Tryz.prog 96 #[.slice sa 0 c,.string s] w fun e w'=>e = .returned (.string ⟨#[]⟩)∧Ext w w':=by
 go_enter Tryz.func96,Tryz.ntmps96
 go_wp2_with fail
 go_ret
 exact ⟨rfl,Ext.refl _⟩
theorem joinA_all {w:World} {B:Nat} {v:Value} {xs:List ByteArray} {s:List UInt8} (h:StrO B w v xs) (h1:xs.length≤1000) (hj:(Lib.join (xs.map (·.data.toList)) s).length≤1000000) :
  Calls Tryz.prog 96 #[v,.string ⟨s.toArray⟩] w fun e w'=>e = .returned (.string (joinA xs s))∧Ext w w':=by
 by_cases h0:xs=[]
 ·subst h0
  obtain ⟨a,c,rfl⟩:=h.slice
  exact joinNil_any
 ·obtain ⟨g,cap,rfl⟩:=h.sh rfl (List.length_pos_iff.2 h0)
  exact joinA_any h rfl (List.length_pos_iff.2 h0) h1 hj
def tuTx (P:List Int) (G:List (List Rat)):ByteArray:=joinA (G.map (szTx P)) [44,32]
theorem szTx_len {P:List Int} {l:List Rat} (h:ShQ l) (h64 : ∀ z∈P,I64 z):(szTx P l).data.toList.length≤91*l.length+1:=by
 have h1:=szX_len (P:=P) h (fun k=>by
  rw [List.getD_eq_getElem?_getD]
  by_cases hk:k<P.length
  ·rw [List.getElem?_eq_getElem hk]; exact itoa_len64 (h64 _ (List.getElem_mem hk))
  ·rw [List.getElem?_eq_none (by omega)]; show (Lib.itoa 0).length≤21; rw [itoa_zero]; decide) l.length
 have h2:=szX_le P l l.length
 unfold szTx
 split
 ·show 1≤_; omega
 ·unfold joinA
  show (Lib.join _ [32]).toArray.toList.length≤_
  rw [List.toList_toArray]
  have:=joinA_le (b:=90) [32] (r:=(szX P l l.length).map (·.data.toList)) (fun x hx=>by
   obtain ⟨y,hy,rfl⟩:=List.mem_map.1 hx
   exact h1 y hy)
  rw [List.length_map] at this
  simp only [List.length_cons,List.length_nil] at this
  omega
theorem SmP.i64 {z:Int} (h:SmP z):I64 z:=by unfold SmP at h; unfold I64; omega
set_option maxHeartbeats 4000000 in
theorem tuText_any {w:World} {P:List Int} {C M:Mx} {G:List (List Rat)} {sp:Option Addr} {cp:Nat} {sc:Option Addr} {lc cc:Nat} {sm:Option Addr} {lm cm:Nat} {sg:Option Addr} {lg cg:Nat} (h:TuV w P C M G sp cp sc lc cc sm lm cm sg lg cg) (hL:Laid w) :
  Calls Tryz.prog 37 #[tuS P sp cp sc lc cc sm lm cm sg lg cg] w fun e w'=>e = .returned (.tuple #[.string (tuTx P G),.int .i64 0])∧Ext w w':=by
 have hck:=Lib.hid (fun W (hW:Ext w W)=>tuCheck_any (h.ext hW) (hL.ext hW))
 obtain ⟨hT,hG,hln,hcl,hsh⟩:=h
 have hm4:=hT.m4
 have hp4:=hT.ok.p4
 have h64 : ∀ z∈P,I64 z:=fun z hz=>(hT.ok.pr z hz).i64
 have Htx:=Lib.hid (fun W v l (hW:Ext w W) (hl:l∈G) (hv:SzR W v l)=>szText_any (w:=W) (v:=v) (hT.hP.ext hW) (fun W2 h2=>hT.pchk W2 (hW.trans h2)) hv (hcl l hl) (hsh l hl) h64 (by omega) (hL.ext hW))
 have Hjl:Hid ((Lib.join ((G.map (szTx P)).map (·.data.toList)) [44,32]).length≤1000000):=Lib.hid (by
  have:=joinA_le (b:=365) [44,32] (r:=(G.map (szTx P)).map (·.data.toList)) (fun x hx=>by
   obtain ⟨y,hy,rfl⟩:=List.mem_map.1 hx
   obtain ⟨l,hl,rfl⟩:=List.mem_map.1 hy
   have h1:=szTx_len (P:=P) (hsh l hl) h64
   have h2:=hcl l hl
   omega)
  simp only [List.length_map,List.length_cons,List.length_nil] at this
  have h3:(365+(0+1+1))*G.length≤(365+(0+1+1))*4:=Nat.mul_le_mul_left _ (by omega)
  omega)
 have hX:=(Ext.refl w).alloc (.cells #[.slice sp P.length cp,.slice sc lc cc,.slice sm lm cm,.slice sg lg cg] 67)
 have x0:(w.alloc (.cells #[.slice sp P.length cp,.slice sc lc cc,.slice sm lm cm,.slice sg lg cg] 67)).cell? ⟨w.heap.size,0,none⟩=some (.slice sp P.length cp):=by go_simp
 have x1:(w.alloc (.cells #[.slice sp P.length cp,.slice sc lc cc,.slice sm lm cm,.slice sg lg cg] 67)).cell? ⟨w.heap.size,1,none⟩=some (.slice sc lc cc):=by go_simp
 have x2:(w.alloc (.cells #[.slice sp P.length cp,.slice sc lc cc,.slice sm lm cm,.slice sg lg cg] 67)).cell? ⟨w.heap.size,2,none⟩=some (.slice sm lm cm):=by go_simp
 have x3:(w.alloc (.cells #[.slice sp P.length cp,.slice sc lc cc,.slice sm lm cm,.slice sg lg cg] 67)).cell? ⟨w.heap.size,3,none⟩=some (.slice sg lg cg):=by go_simp
 obtain ⟨sa',gb,go,cap',vs,ev,hcap,hvl,hS,hr⟩:=hG
 injection ev with ev1 ev2 ev3
 subst ev1 ev2 ev3
 have HS:=Lib.hid hS
 have Hr:=Lib.hid hr
 have Hv:=Lib.hid hvl
 have Hg4:=Lib.hid (show G.length≤4 by omega)
 have hdef:tuTx P G=joinA (G.map (szTx P)) [44,32]:=rfl
 generalize tuTx P G=tx at *
 have Hdef:=Lib.hid hdef
 clear hT hln hcl hsh hm4 hp4 h64 hL hS hr hvl hcap hdef
 go_enter Tryz.func37,Tryz.ntmps37
 go_wp2_with fail
 refine (hck.out _ hX).mono ?_
 rintro e X0 ⟨rfl,hE0⟩
 have e0:=hX.trans hE0
 replace x0:=hE0.cell x0
 replace x3:=hE0.cell x3
 have hX0:w.heap.size+1≤X0.heap.size:=by have:=hE0.size; simp at this; omega
 have HX0:=Lib.hid hX0
 clear hck hX hE0 x1 x2 hX0
 go_wp2_with fail
 go_loopw [5,18] (fun u iv wr => ∃ i:Nat,i≤G.length∧iv = .int .i64 i∧Hid (StrO X0.heap.size wr u ((G.take i).map (szTx P)))∧Ext X0 wr) (fun _ iv _=>G.length-(intOf iv).toNat)
 case atStart=>exact ⟨0,by omega,by go_num,Lib.hid (StrO.nil _ _),Ext.refl _⟩
 case round =>
  obtain ⟨i,hi,rfl,HV,hE⟩:=hrel
  generalize wr=Y at *
  have y0:=hE.cell x0
  have eY:=e0.trans hE
  by_cases hlt:i<G.length
  ·have hii:(i:Int)<(G.length:Int):=by omega
   have hiv:i<vs.length:=by rw [Hv.out]; exact hlt
   obtain rfl:=HS.out.addr (by omega)
   have k0:=HS.out.cell i _ (List.getElem?_eq_getElem hiv)
   have hsz:=Hr.out i hlt hiv
   have k1:=eY.cell k0
   have htx:=Lib.hid (fun W (hW:Ext Y W)=>Htx.out W vs[i] G[i] (eY.trans hW) (List.getElem_mem hlt) (hsz.ext (eY.trans hW)))
   have Hsn:=Lib.hid (show (G.take (i+1)).map (szTx P)=(G.take i).map (szTx P)++[szTx P G[i]] by rw [List.take_succ_eq_append_getElem hlt,List.map_append]; rfl)
   have Hil:=Lib.hid (show ((G.take i).map (szTx P)).length=i by simp; omega)
   obtain ⟨xa,xb,xo,xc,ex,q1,q2,q3⟩:=hsz
   rw [ex] at k0 k1 htx
   clear q1 q2 q3 ex
   generalize szTx P G[i]=z at *
   generalize G[i].length=m at *
   have hi4:i<4:=by have:=Hg4.out; omega
   clear k0 hiv
   go_wp2_with fail
   refine (htx.out _ (Ext.refl _)).mono ?_
   rintro e W ⟨rfl,hW⟩
   have HVZ:=Lib.hid (HV.out.ext (hW.alloc (.cells #[Value.string z] 9)))
   have hWs:X0.heap.size≤W.heap.size:=by have:=hE.size; have:=hW.size; omega
   clear htx
   go_wp2_with (at_builtin; refine app_str rfl _ _ 160 Tryz.underlying160 rfl (B:=X0.heap.size) rfl HVZ.out (b:=W.heap.size) (z:=z) rfl (by go_simp) (by rw [Hil.out]; omega) (by simp; omega) ?_; intro g9 cap9 w9 hO9 hB9 _; rw [← Hsn.out,Hil.out] at hO9; have HO9:=Lib.hid hO9; have e9:=Below.trans (hE.trans (hW.alloc (.cells #[Value.string z] 9))) hB9; clear hO9 hB9)
   go_wp2_with fail
   go_roundw
   case rel=>exact ⟨i+1,by omega,by go_num,HO9,e9⟩
   case measure=>simp [intOf] <;> omega
  ·obtain rfl:i=G.length:=by omega
   have hii : ¬ (G.length:Int)<(G.length:Int):=by omega
   have HV:=Lib.hid (show StrO X0.heap.size Y u5 (G.map (szTx P)) by have:=HV.out; rw [List.take_length] at this; exact this)
   have hj:=Lib.hid (joinA_all (s:=[44,32]) HV.out (by rw [List.length_map]; have:=Hg4.out; omega) Hjl.out)
   clear hlt
   go_wp2_with fail
   refine hj.out.mono ?_
   rintro e W ⟨rfl,hW⟩
   go_wp2_with fail
   go_ret2
   exact ⟨ret_val (congrArg (fun z=>Value.tuple #[.string z,.int .i64 0]) Hdef.out.symm),eY.trans hW⟩
end Go.Proofs.YtjnpakablgommaaGreatDoor
namespace Go.Proofs.YtjnpakablgommaaGreatDoor
theorem k24_e1:tuE 3 mtM [-1,1,0]=0:=by decide +kernel
theorem k24_e2:tuE 3 mtM [-2,0,1]=0:=by decide +kernel
theorem k24_l1:erL 3 mtM mtG [-1,1,0]=[1,-1,1/4]:=by decide +kernel
theorem k24_l2:erL 3 mtM mtG [-2,0,1]=[0,0,0]:=by decide +kernel
theorem k24_p:decide (tuL 3 mtM mtG (unitL 3 0)=nbL (unitL 3 0))=true:=by decide +kernel
theorem k24_t:tuTx mtP mtG=⟨#[50,44,32,50,32,53,94,40,49,47,52,41]⟩:=by decide +kernel
theorem m1_parts:((-1:Rat)).num = -1∧(((-1:Rat)).den:Int)=1:=by decide +kernel
theorem itoa_m1:Lib.itoa (-1)=[45,49]:=by decide +kernel
theorem I_m1:I ((-1:Rat)).num = .string ⟨#[45,49]⟩∧I (((-1:Rat)).den:Int) = .string ⟨#[49]⟩:=by
 unfold I S
 rw [m1_parts.1,m1_parts.2,itoa_one,itoa_m1]; exact ⟨rfl,rfl⟩
theorem nd_m1:nd (-1)=1:=Lib.nDigits_small (u:=1) (by omega)
theorem k24_s1:szE (erL 3 mtM mtG [-1,1,0])=0:=by
 rw [k24_l1]
 refine szE_sh (fun r hr => ?_)
 simp only [List.mem_cons,List.not_mem_nil,or_false] at hr
 rcases hr with rfl | rfl | rfl
 ·exact mtG_ok.2 _ (List.mem_cons_self) _ (List.mem_cons_self)
 ·rw [m1_parts.1,m1_parts.2,nd_m1,nd_1]; omega
 ·exact mtG_ok.2 [1,0,1/4] (by simp [mtG]) _ (by simp)
theorem k24_s2:szE (erL 3 mtM mtG [-2,0,1])=0:=by
 rw [k24_l2]
 refine szE_sh (fun r hr => ?_)
 simp only [List.mem_cons,List.not_mem_nil,or_false,or_self] at hr
 subst hr
 exact mtG_ok.2 [1,0,0] (by simp [mtG]) _ (by simp)
end Go.Proofs.YtjnpakablgommaaGreatDoor
