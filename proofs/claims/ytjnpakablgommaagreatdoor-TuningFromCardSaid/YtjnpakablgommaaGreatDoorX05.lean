/- Part 5, beside the shared parts, of the proof of the claim: contracts and plain laws; no condition. -/
import Derived.Test.YtjnpakablgommaaGreatDoorX04
set_option maxRecDepth 100000
namespace Go.Proofs.YtjnpakablgommaaGreatDoor
open Go.RowKit Go.Sort
theorem own_off {B q:Nat} {w w':World} {T:TypeId} {size n:Nat} {u:Value} {xs:List Value} (h:w.ownsRow B T size u n xs) (hG:w.grownBy w' (some q)) (hq : ∀ g,u.ownBlock=some g→g≠q):w'.ownsRow B T size u n xs:=by
 refine World.ownsRow.kept h hG ?_
 cases hu:u.ownBlock with
 | none=>exact .inl rfl
 | some g=>exact .inr (fun h2=>hq g hu (by injection h2))
theorem rowV_off {B:Nat} {w w':World} {v:Value} {r:List Int} {q:Nat} (h:RowV B w v r) (hG:w.grownBy w' (some q)) (hq:q<B):RowV B w' v r :=
 own_off h hG (fun g hg=>by have:=(World.ownsRow.lt h g hg).1; omega)
theorem matO_off {B q:Nat} {w w':World} {v:Value} {F:Mx} (h:MatO B w v F) (hG:w.grownBy w' (some q)) (hq:q<B):MatO B w' v F:=by
 obtain ⟨vs,h1,h2,h3⟩:=h
 exact ⟨vs,h1,own_off h2 hG (fun g hg=>by have:=(World.ownsRow.lt h2 g hg).1; omega),fun t a b=>rowV_off (h3 t a b) hG hq⟩
theorem ownV_off {T:TypeId} {B g c q:Nat} {w w':World} {xs:List Value} (h:OwnV T B w g c xs) (hG:w.grownBy w' (some q)) (hq:g≠q):OwnV T B w' g c xs:=own_off h hG (fun g' hg=>by
 have:g'=g:=by simpa [slv,Value.ownBlock] using hg.symm
 rw [this]; exact hq)
theorem szR_slc {w:World} {v:Value} {l:List Rat} (h:SzR w v l) : ∃ a c,v = .slice a l.length c:=by
 obtain ⟨a,b,g0,c,e,_⟩:=h
 exact ⟨a,c,e⟩
theorem matO_slc {B:Nat} {w:World} {v:Value} {F:Mx} (h:MatO B w v F) : ∃ a k,v = .slice a F.length k:=by
 obtain ⟨vs,h1,h2,h3⟩:=h
 rcases h2.2 with ⟨rfl,h0⟩ | ⟨g,cap,cur,rfl,_⟩
 ·exact ⟨_,_,by rw [h0]⟩
 ·exact ⟨_,_,rfl⟩
abbrev tuZ:Value := .agg #[.slice none 0 0,.slice none 0 0,.slice none 0 0,.slice none 0 0]
theorem tuV_keep {w:World} {P:List Int} {C M:Mx} {G:List (List Rat)} {sp:Option Addr} {cp:Nat} {sc:Option Addr} {lc cc:Nat} {sm:Option Addr} {lm cm:Nat} {sg:Option Addr} {lg cg:Nat} {T:TypeId} {B b:Nat} {w':World} (h:TuV w P C M G sp cp sc lc cc sm lm cm sg lg cg) (ho:OwnV T B w b 4 [.slice none 0 0,.slice none 0 0,.slice none 0 0,.slice none 0 0]) (hg:w.grownBy w' (some b)):TuV w' P C M G sp cp sc lc cc sm lm cm sg lg cg:=by
 obtain ⟨psC,hIC⟩:=h.tm.ok.kC.1
 obtain ⟨psM,hIM⟩:=h.tm.ok.kM.1
 have hp0:=h.tm.ok.p0
 exact ⟨TmV.mk h.tm.ok (row_off h.tm.hP ho hg) (mat_off h.tm.hC (fun r hr=>by rw [hIC.rect r hr]; exact hp0) ho hg) (mat_off h.tm.hM (fun r hr=>by rw [hIM.rect r hr]; exact hp0) ho hg),gn_off h.gn (fun r hr=>by rw [h.cl r hr]; exact hp0) ho hg,h.ln,h.cl,h.sh⟩
def MdPost (w:World) (P:List Int) (C M:Mx) (G:List (List Rat)) (e:Ending) (w':World):Prop :=
 Ext w w'∧(((∀ l∈G,szE l=0) ∧ ∃ t,e = .returned (.tuple #[t,.int .i64 0])∧TuR w' t P C M G)∨((∃ l∈G,szE l≠0)∧e = .returned (.tuple #[tuZ,.int .i64 4])))
set_option maxHeartbeats 8000000 in
theorem made_any {w:World} {P:List Int} {C M:Mx} {G:List (List Rat)} {sp:Option Addr} {cp:Nat} {sc:Option Addr} {lc cc:Nat} {sm:Option Addr} {lm cm:Nat} {sg:Option Addr} {lg cg:Nat} (hT:TmV w P C M M sp cp sc lc cc sm lm cm) (hG:GnR w (.slice sg lg cg) G) (hln:G.length=M.length) (hcl : ∀ l∈G,l.length=P.length) (hnd : ∀ l∈G,∀ r∈l,NdQ 400 r) (hL:Laid w) :
  Calls Tryz.prog 94 #[tuS P sp cp sc lc cc sm lm cm sg lg cg] w (MdPost w P C M G):=by
 have hp4:=hT.ok.p4
 have hp0:=hT.ok.p0
 have hm4:=hT.m4
 have hlg:=hG.len
 have hg4:G.length≤4:=by omega
 subst hlg
 have hpc:=Lib.hid hT.pchk
 have hpcl:=Lib.hid (fun W (hW:Ext w W)=>pcln_any (hT.hP.ext hW) hp0 (by omega))
 obtain ⟨psC,hIC⟩:=hT.ok.kC.1
 obtain ⟨psM,hIM⟩:=hT.ok.kM.1
 have hlC:=isH_len hIC
 have hcC:=Lib.hid (fun W (hW:Ext w W)=>mcopied_any (hT.hC.ext hW) (fun r hr=>by rw [hIC.rect r hr]; omega) (by omega))
 have hcM:=Lib.hid (fun W (hW:Ext w W)=>mcopied_any (hT.hM.ext hW) (fun r hr=>by rw [hIM.rect r hr]; omega) (by omega))
 have Hok:=Lib.hid hT.ok
 have HL:=Lib.hid hL
 have HG0:=Lib.hid hG
 have Hln:=Lib.hid hln
 have Hcl:=Lib.hid hcl
 have Hnd:=Lib.hid hnd
 obtain ⟨sg',gg,go,cg',vs,eg,hgc,hvl,hS,hr⟩:=hG
 injection eg with q1 q2 q3
 subst q1 q3
 have HS:=Lib.hid hS
 have HV:=Lib.hid hvl
 have HR:=Lib.hid hr
 have hX0:=(Ext.refl w).alloc (.cells #[.slice sp P.length cp,.slice sc lc cc,.slice sm lm cm,.slice sg G.length cg] 67)
 have hX:=hX0.alloc (.cells #[.slice none 0 0,.slice none 0 0,.slice none 0 0,.slice none 0 0] 67)
 have HB0:=own4 w 67 (.slice sp P.length cp) (.slice sc lc cc) (.slice sm lm cm) (.slice sg G.length cg)
 have HO:=own4 (w.alloc (.cells #[.slice sp P.length cp,.slice sc lc cc,.slice sm lm cm,.slice sg G.length cg] 67)) 67 (.slice none 0 0) (.slice none 0 0) (.slice none 0 0) (.slice none 0 0)
 rw [show (w.alloc (.cells #[.slice sp P.length cp,.slice sc lc cc,.slice sm lm cm,.slice sg G.length cg] 67)).heap.size=w.heap.size+1 by simp] at HO
 replace HB0:=HB0.ext ((Ext.refl _).alloc (.cells #[.slice none 0 0,.slice none 0 0,.slice none 0 0,.slice none 0 0] 67))
 have hVs:((w.alloc (.cells #[.slice sp P.length cp,.slice sc lc cc,.slice sm lm cm,.slice sg G.length cg] 67)).alloc (.cells #[.slice none 0 0,.slice none 0 0,.slice none 0 0,.slice none 0 0] 67)).heap.size=w.heap.size+1+1:=by simp
 clear hS hr hvl hT hL hcl hnd hln hIC hIM hX0
 go_enter Tryz.func94,Tryz.ntmps94
 go_wp2_with fail
 generalize ((w.alloc (.cells #[.slice sp P.length cp,.slice sc lc cc,.slice sm lm cm,.slice sg G.length cg] 67)).alloc (.cells #[.slice none 0 0,.slice none 0 0,.slice none 0 0,.slice none 0 0] 67))=V at *
 have HB0:=Lib.hid HB0
 have HO:=Lib.hid HO
 have HVs:=Lib.hid hVs
 clear hVs
 obtain ⟨b0,hb0⟩ : ∃ b,b=w.heap.size:=⟨_,rfl⟩
 have Hb0:=Lib.hid hb0
 rw [← hb0] at HB0 HO HVs ⊢
 clear hb0
 go_loopw [13] (fun iv wr => ∃ i:Nat,i≤G.length∧iv = .int .i64 i∧Hid (∀ t (h:t<G.length),t<i→szE G[t]=0)∧Ext V wr) (fun iv _=>G.length-(intOf iv).toNat)
 case atStart=>exact ⟨0,by omega,by go_num,Lib.hid (fun t _ h=>by omega),Ext.refl _⟩
 case round =>
  obtain ⟨i,hi,rfl,HA,hE⟩:=hrel
  generalize wr=Y at *
  have eY:=hX.trans hE
  have HBY:=Lib.hid (HB0.out.ext hE)
  have HOY:=Lib.hid (HO.out.ext hE)
  have o0:=HBY.out.cell (j:=0) (by simp)
  have o1:=HBY.out.cell (j:=1) (by simp)
  have o2:=HBY.out.cell (j:=2) (by simp)
  have o3:=HBY.out.cell (j:=3) (by simp)
  simp only [List.getElem_cons_zero,List.getElem_cons_succ] at o0 o1 o2 o3
  have m0:=HOY.out.cell (j:=0) (by simp)
  have m1:=HOY.out.cell (j:=1) (by simp)
  have m2:=HOY.out.cell (j:=2) (by simp)
  have m3:=HOY.out.cell (j:=3) (by simp)
  simp only [List.getElem_cons_zero,List.getElem_cons_succ] at m0 m1 m2 m3
  have n0:=HOY.out.frozen 0
  have n1:=HOY.out.frozen 1
  have n2:=HOY.out.frozen 2
  have n3:=HOY.out.frozen 3
  by_cases hlt:i<G.length
  ·have hii:(i:Int)<(G.length:Int):=by omega
   have hiv:i<vs.length:=by rw [HV.out]; exact hlt
   obtain rfl:=HS.out.addr (by omega)
   have c0:=eY.cell (HS.out.cell i _ (List.getElem?_eq_getElem hiv))
   have hsz:=(HR.out i hlt hiv).ext eY
   have hl:=Hcl.out _ (List.getElem_mem hlt)
   have hn:=Hnd.out _ (List.getElem_mem hlt)
   obtain ⟨xa,xc,ex⟩:=szR_slc hsz
   rw [ex] at c0 hsz
   have Hyes:=Lib.hid (fun (h:szE G[i]=0) t (ht:t<G.length) (hti:t<i+1)=>show szE G[t]=0 by
    by_cases e:t=i
    ·subst e; exact h
    ·exact HA.out t ht (by omega))
   have Hno:=Lib.hid (fun (h:szE G[i]≠0)=>show ∃ l∈G,szE l≠0 from ⟨_,List.getElem_mem hlt,h⟩)
   rw [hl] at c0 hsz
   have hyes:=Lib.hid (fun (h:szE G[i]=0)=>tuResult_yes (pa:=sp) (cp:=cp) h (fun W hW=>hpc.out W (eY.trans hW)) hsz hl hn (by omega) (HL.out.ext eY))
   have hno:=Lib.hid (fun (h:szE G[i]≠0)=>tuResult_no (pa:=sp) (cp:=cp) h (fun W hW=>hpc.out W (eY.trans hW)) hsz hl hn (by omega) (HL.out.ext eY))
   obtain ⟨l,hle⟩ : ∃ l,l=G[i]:=⟨_,rfl⟩
   rw [← hle] at Hyes Hno hyes hno
   clear hsz hl hn ex hle HA hiv
   by_cases h0:szE l=0
   ·have hrs:=Lib.hid (hyes.out h0)
    have HA:=Lib.hid (Hyes.out h0)
    clear hyes hno Hyes Hno h0
    go_wp2_with fail
    refine hrs.out.mono ?_
    rintro e W ⟨rfl,hE2⟩
    have e2:=hE.trans hE2
    go_wp2_with fail
    go_roundw
    case rel=>exact ⟨i+1,by omega,by go_num,HA,e2⟩
    case measure=>simp [intOf] <;> omega
   ·have hrs:=Lib.hid (hno.out h0)
    have HN:=Lib.hid (Hno.out h0)
    clear hyes hno Hyes Hno h0 m0 m1 m2 m3 n0 n1 n2 n3
    go_wp2_with fail
    refine hrs.out.mono ?_
    rintro e W ⟨rfl,hE2⟩
    have eW:=eY.trans hE2
    have HO9:=HOY.out.ext hE2
    obtain ⟨Hr6,He6,Hg6⟩:=set4 eW (by have:=Hb0.out; omega) HO9 (.slice none 0 0) (.slice none 0 0) (.slice none 0 0) (.slice none 0 0)
    have r0:=Hr6.cell (j:=0) (by simp)
    have r1:=Hr6.cell (j:=1) (by simp)
    have r2:=Hr6.cell (j:=2) (by simp)
    have r3:=Hr6.cell (j:=3) (by simp)
    simp only [List.getElem_cons_zero,List.getElem_cons_succ] at r0 r1 r2 r3
    have f0:=(HO9).frozen 0
    have f1:=(HO9).frozen 1
    have f2:=(HO9).frozen 2
    have f3:=(HO9).frozen 3
    have m0:=(HO9).cell (j:=0) (by simp)
    have m1:=(HO9).cell (j:=1) (by simp)
    have m2:=(HO9).cell (j:=2) (by simp)
    have m3:=(HO9).cell (j:=3) (by simp)
    simp only [List.getElem_cons_zero,List.getElem_cons_succ] at m0 m1 m2 m3
    have Hres:=Lib.hid (show MdPost w P C M G (.returned (.tuple #[tuZ,.int .i64 4])) _ from ⟨He6,.inr ⟨HN.out,rfl⟩⟩)
    clear Hr6 He6 Hg6 HO9
    go_wp2_with fail
    refine bodyPost_ret (v := .tuple #[tuZ,.int .i64 4]) (by simp [results,Tryz.results94,go_sem,r0,r1,r2,r3]) rfl Hres.out
  ·obtain rfl:i=G.length:=by omega
   have hii : ¬ (G.length:Int)<(G.length:Int):=by omega
   have HA0:=Lib.hid (show ∀ l∈G,szE l=0 from fun l hl=>by
    obtain ⟨t,ht,rfl⟩:=List.getElem_of_mem hl
    exact HA.out t ht ht)
   have eB:=(Ext.refl Y).alloc (.cells #[.slice sp P.length cp,.slice sc lc cc,.slice sm lm cm] 34)
   have y0:(Y.alloc (.cells #[.slice sp P.length cp,.slice sc lc cc,.slice sm lm cm] 34)).cell? ⟨Y.heap.size,0,none⟩=some (.slice sp P.length cp):=by go_simp
   have y1:(Y.alloc (.cells #[.slice sp P.length cp,.slice sc lc cc,.slice sm lm cm] 34)).cell? ⟨Y.heap.size,1,none⟩=some (.slice sc lc cc):=by go_simp
   have y2:(Y.alloc (.cells #[.slice sp P.length cp,.slice sc lc cc,.slice sm lm cm] 34)).cell? ⟨Y.heap.size,2,none⟩=some (.slice sm lm cm):=by go_simp
   clear HA hlt hi m0 m1 m2 m3 n0 n1 n2 n3
   go_wp2_with fail
   have eZ:=eY.trans eB
   have HBZ:=Lib.hid (HBY.out.ext eB)
   have HOZ:=Lib.hid (HOY.out.ext eB)
   have hZs:b0+1+1≤(Y.alloc (.cells #[.slice sp P.length cp,.slice sc lc cc,.slice sm lm cm] 34)).heap.size:=by
    have h1:=(hE.trans eB).size
    have h2:=HVs.out
    omega
   have HZs:=Lib.hid hZs
   generalize Y.alloc (.cells #[.slice sp P.length cp,.slice sc lc cc,.slice sm lm cm] 34)=Z at *
   generalize Y.heap.size=b9 at *
   clear eY hE HBY HOY o0 o1 o2 o3 eB hZs hX
   have d0:Ext Z Z.drew:=(Ext.refl Z).drew
   refine wp_region_held_tail (S:=fun W=>Ext Z W) 12 (by kernel_rfl) (by simp) ?_
   intro inv
   generalize Z.drew=Z1 at *
   refine wpAnyLH_take (i:=0) (v := .pointer (some ⟨b9,0,none⟩)) rfl (by kernel_rfl) (fun _ _ _ h=>h) (.inl ⟨by rfl,fun W hW=>by go_simp⟩) d0 inv ?_
   intro inv
   go_simp
   refine wpAnyLH_take (i:=1) (v := .slice sp P.length cp) rfl (by kernel_rfl) (fun _ _ _ h=>h) (.inl ⟨by rfl,fun W hW=>by have z0:=hW.cell y0; go_simp⟩) d0 inv ?_
   intro inv
   go_simp
   refine wpAnyLH_take (i:=3) (v := .func (.func 149) #[] #[]) rfl (by kernel_rfl) (fun _ _ _ h=>h) (.inl ⟨by rfl,fun W hW=>by go_simp⟩) d0 inv ?_
   intro inv
   go_simp
   refine wpAnyLH_take (i:=4) (v := .pointer (some ⟨b9,1,none⟩)) rfl (by kernel_rfl) (fun _ _ _ h=>h) (.inl ⟨by rfl,fun W hW=>by go_simp⟩) d0 inv ?_
   intro inv
   go_simp
   refine wpAnyLH_take (i:=5) (v := .slice sc lc cc) rfl (by kernel_rfl) (fun _ _ _ h=>h) (.inl ⟨by rfl,fun W hW=>by have z0:=hW.cell y1; go_simp⟩) d0 inv ?_
   intro inv
   go_simp
   refine wpAnyLH_take (i:=7) (v := .func (.func 149) #[] #[]) rfl (by kernel_rfl) (fun _ _ _ h=>h) (.inl ⟨by rfl,fun W hW=>by go_simp⟩) d0 inv ?_
   intro inv
   go_simp
   refine wpAnyLH_take (i:=8) (v := .pointer (some ⟨b9,2,none⟩)) rfl (by kernel_rfl) (fun _ _ _ h=>h) (.inl ⟨by rfl,fun W hW=>by go_simp⟩) d0 inv ?_
   intro inv
   go_simp
   refine wpAnyLH_take (i:=9) (v := .slice sm lm cm) rfl (by kernel_rfl) (fun _ _ _ h=>h) (.inl ⟨by rfl,fun W hW=>by have z0:=hW.cell y2; go_simp⟩) d0 inv ?_
   intro inv
   go_simp
   refine wpAnyLH_oneI (i:=2) rfl (by kernel_rfl) inv (fun inv K0 hK0 => ?_)
   go_simp
   refine (hpcl.out _ (eZ.trans d0)).mono ?_
   rintro e Z2 ⟨g1,c1,rfl,hO1,hG1⟩
   have d1:=d0.trans hG1
   have HP1:=Lib.hid ((own_rowV hO1).mono d0.size)
   refine hK0 _ _ d1 ?_
   clear hK0 hO1
   refine wpAnyLH_oneI (i:=6) rfl (by kernel_rfl) inv (fun inv K0 hK0 => ?_)
   go_simp
   refine (hcC.out _ (eZ.trans d1)).mono ?_
   rintro e Z3 ⟨u1,rfl,hO2,hG2⟩
   have d2:=d1.trans hG2
   have HC1:=Lib.hid (hO2.mono d1.size)
   obtain ⟨ca,ck,rfl⟩:=matO_slc hO2
   refine hK0 _ _ d2 ?_
   clear hK0 hO2
   refine wpAnyLH_oneI (i:=10) rfl (by kernel_rfl) inv (fun inv K0 hK0 => ?_)
   go_simp
   refine (hcM.out _ (eZ.trans d2)).mono ?_
   rintro e Z4 ⟨u2,rfl,hO3,hG3⟩
   have d3:=d2.trans hG3
   have HM1:=Lib.hid (hO3.mono d2.size)
   obtain ⟨ma,mk,rfl⟩:=matO_slc hO3
   refine hK0 _ _ d3 ?_
   clear hK0 hO3
   refine wpAnyLH_oneI (i:=11) rfl (by kernel_rfl) inv (fun inv K0 hK0 => ?_)
   go_simp
   refine hK0 _ _ d3 ?_
   clear hK0
   refine wpAnyLH_end (by kernel_rfl) ?_
   have HB4:=HBZ.out.ext d3
   have HO4:=HOZ.out.ext d3
   have o0:=HB4.cell (j:=0) (by simp)
   have o1:=HB4.cell (j:=1) (by simp)
   have o2:=HB4.cell (j:=2) (by simp)
   have o3:=HB4.cell (j:=3) (by simp)
   simp only [List.getElem_cons_zero,List.getElem_cons_succ] at o0 o1 o2 o3
   have k0:=HB4.frozen 0
   have k1:=HB4.frozen 1
   have k2:=HB4.frozen 2
   obtain ⟨s1,t1⟩:=HB4.set 0 (slv g1 P.length c1)
   obtain ⟨s2,t2⟩:=s1.set 1 (.slice ca C.length ck)
   obtain ⟨s3,t3⟩:=s2.set 2 (.slice ma M.length mk)
   have tt:=grown_trans (grown_trans t1 t2) t3
   simp only [List.set_cons_zero,List.set_cons_succ] at s3
   have HP4:=Lib.hid (rowV_off ((HP1.out.ext hG2).ext hG3) tt (by have:=HZs.out; omega))
   have HC4:=Lib.hid (matO_off (HC1.out.ext hG3) tt (by have:=HZs.out; omega))
   have HM4:=Lib.hid (matO_off HM1.out tt (by have:=HZs.out; omega))
   have HO5:=Lib.hid (ownV_off HO4 tt (by omega))
   have e5:=Lib.hid (ext_trans_grown (eZ.trans d3) tt (by have:=Hb0.out; omega))
   have p0:=s3.cell (j:=0) (by simp)
   have p1:=s3.cell (j:=1) (by simp)
   have p2:=s3.cell (j:=2) (by simp)
   have p3:=s3.cell (j:=3) (by simp)
   simp only [List.getElem_cons_zero,List.getElem_cons_succ] at p0 p1 p2 p3
   clear s1 s2 s3 t1 t2 t3 tt HB4 HO4 HBZ HOZ HP1 HC1 HM1 inv d0 d1 d2 d3 hG1 hG2 hG3 y0 y1 y2 hpcl hcC hcM
   obtain ⟨Hr6,He6,Hg6⟩:=set4 e5.out (by have:=Hb0.out; omega) HO5.out (slv g1 P.length c1) (.slice ca C.length ck) (.slice ma M.length mk) (.slice sg G.length cg)
   have r0:=Hr6.cell (j:=0) (by simp)
   have r1:=Hr6.cell (j:=1) (by simp)
   have r2:=Hr6.cell (j:=2) (by simp)
   have r3:=Hr6.cell (j:=3) (by simp)
   simp only [List.getElem_cons_zero,List.getElem_cons_succ] at r0 r1 r2 r3
   have f0:=HO5.out.frozen 0
   have f1:=HO5.out.frozen 1
   have f2:=HO5.out.frozen 2
   have f3:=HO5.out.frozen 3
   have m0:=HO5.out.cell (j:=0) (by simp)
   have m1:=HO5.out.cell (j:=1) (by simp)
   have m2:=HO5.out.cell (j:=2) (by simp)
   have m3:=HO5.out.cell (j:=3) (by simp)
   simp only [List.getElem_cons_zero,List.getElem_cons_succ] at m0 m1 m2 m3
   have Hres:=Lib.hid (show MdPost w P C M G (.returned (.tuple #[tuS P (some ⟨g1,0,none⟩) c1 ca C.length ck ma M.length mk sg G.length cg,.int .i64 0])) _ from ⟨He6,.inl ⟨HA0.out,_,rfl,_,_,_,_,_,_,_,_,_,_,_,rfl,⟨TmV.mk Hok.out (rowV_off HP4.out Hg6 (by have:=HZs.out; omega)).row (matO_off HC4.out Hg6 (by have:=HZs.out; omega)).mat (matO_off HM4.out Hg6 (by have:=HZs.out; omega)).mat,HG0.out.ext He6,Hln.out,Hcl.out,fun l hl=>szE_zero (HA0.out l hl)⟩⟩⟩)
   clear Hr6 He6 Hg6 HP4 HC4 HM4 HO5 e5
   go_wp2_with fail
   refine bodyPost_ret (v := .tuple #[tuS P (some ⟨g1,0,none⟩) c1 ca C.length ck ma M.length mk sg G.length cg,.int .i64 0]) (by simp [results,Tryz.results94,go_sem,r0,r1,r2,r3]) rfl Hres.out
theorem cmb_nd {L:List (List Rat)} {fs:List Rat} {n E F:Nat} (hl : ∀ s∈L,∀ r∈s,NdQ E r) (hf : ∀ r∈fs,NdQ F r) (hE:1≤E) (hF:1≤F) (h:L.length*(E+F+1)+1≤400) : ∀ r∈cmbQ L fs n,NdQ 400 r:=fun r hr=>by
 unfold cmbQ at hr
 obtain ⟨c,_,rfl⟩:=List.mem_map.1 hr
 exact (sumR_nd _ fun k _=>cmbF_nd hl hf hE hF).mono h
def strG (G:List (List Rat)) (k:Rat) (n:Nat):List (List Rat):=G.map fun l=>cmbQ [l] [k] n
@[simp] theorem strG_length (G:List (List Rat)) (k:Rat) (n:Nat):(strG G k n).length=G.length:=by simp [strG]
theorem columns_any {w:World} {v:Value} {M:Mx} (hM:MatR w v M) :
  Calls Tryz.prog 267 #[v] w fun e w'=>e = .returned (.int .i64 (ncols M))∧Ext w w':=by
 obtain ⟨sa,gb,go,cap,vs,rfl,hcap,hvl,hS,hr⟩:=hM
 by_cases h0:M.length=0
 ·have hn:ncols M=0:=by
   have:M=[]:=List.eq_nil_of_length_eq_zero h0
   rw [this]; rfl
  rw [h0,hn]
  clear hS hr hvl h0 hcap hn
  go_enter Tryz.func267,Tryz.ntmps267
  go_wp2_with fail
  go_ret
  exact ⟨rfl,Ext.refl _⟩
 ·have hi0:0<M.length:=by omega
  obtain rfl:=hS.addr (by rw [hvl]; omega)
  obtain ⟨s0,b0,o0,c0,hrow0,hrc0,hS0⟩:=MatR.row hS hvl hr hi0
  have hn:M[0].length=ncols M:=by unfold ncols; rw [getD_get hi0]
  rw [hn,Nat.add_zero] at hrow0
  have hb:((M.length:Int)==0)=false:=beq_eq_false_iff_ne.2 (by omega)
  have hb2 : ¬ (M.length:Int)=0:=by omega
  clear hS hr hvl hn hS0 hrc0
  go_enter Tryz.func267,Tryz.ntmps267
  go_wp2_with fail
  go_ret
  exact ⟨rfl,Ext.refl _⟩
set_option maxHeartbeats 4000000 in
theorem transpose_any {w:World} {v:Value} {M:Mx} (hM:MatR w v M) (hck:checkM M=0) :
  Calls Tryz.prog 218 #[v] w fun e w' => ∃ u,e = .returned (.tuple #[u,.int .i64 0])∧MatO w.heap.size w' u (trM (ncols M) M)∧Ext w w':=by
 obtain ⟨hl12,hn12,hRt,hent⟩:=checkM_ok hck
 have hc:=tableCheck_any hM
 rw [hck] at hc
 have Hc:=Lib.hid hc
 have hcol:=Lib.hid (fun W (hW:Ext w W)=>columns_any (hM.ext hW))
 obtain ⟨sa,gb,go,cap,vs,rfl,hcap,hvl,hS,hr⟩:=hM
 have HS:=Lib.hid hS
 have HV:=Lib.hid hvl
 have HR:=Lib.hid hr
 have HRt:=Lib.hid hRt
 obtain ⟨n,hn⟩ : ∃ n,n=ncols M:=⟨_,rfl⟩
 rw [← hn] at hcol HRt hn12 ⊢
 clear hc hS hvl hr hRt hent hck hn
 go_enter Tryz.func218,Tryz.ntmps218
 go_wp2_with fail
 refine Hc.out.mono ?_
 rintro e w1 ⟨rfl,hE1⟩
 go_wp2_with fail
 refine (hcol.out _ hE1).mono ?_
 rintro e w2 ⟨rfl,hE2⟩
 have e2:=hE1.trans hE2
 clear hE1 hE2 Hc hcol
 go_wp2_with fail
 go_loopw [5,17] (fun out idx wr => ∃ c:Nat,c≤n∧idx = .int .i64 c∧Hid (MatO w.heap.size wr out ((trM n M).take c))∧Ext w wr) (fun _ idx _=>n-(intOf idx).toNat)
 case atStart=>exact ⟨0,by omega,by go_num,Lib.hid (by rw [List.take_zero]; exact MatO.nil _ _),e2⟩
 case round =>
  obtain ⟨c,hcn,rfl,hO,hE⟩:=hrel
  generalize wr=X at *
  by_cases hlt:c<n
  ·have hci:(c:Int)<(n:Int):=by omega
   obtain ⟨tr,htr⟩ : ∃ tr,tr=M.map fun r=>r.getD c 0:=⟨_,rfl⟩
   have htl:tr.length=M.length:=by rw [htr]; simp
   have Htl:=Lib.hid htl
   have Hsn:=Lib.hid (show (trM n M).take (c+1)=(trM n M).take c++[tr] by
    rw [List.take_succ_eq_append_getElem (by simpa using hlt),trM_get M hlt,htr])
   have Htk:=Lib.hid (fun j (hj:j<M.length)=>show tr.take (j+1)=tr.take j++[(M[j]).getD c 0] by
    rw [List.take_succ_eq_append_getElem (by rw [htl]; exact hj)]
    simp [htr])
   clear htl htr
   go_wp2_with fail
   go_loopw [7,22] (fun rv jdx wr => ∃ j:Nat,j≤M.length∧jdx = .int .i64 j∧Hid (RowV X.heap.size wr rv (tr.take j))∧Ext X wr) (fun _ jdx _=>M.length-(intOf jdx).toNat)
   case atStart=>exact ⟨0,by omega,by go_num,Lib.hid (by rw [List.take_zero]; exact RowV.nil _ _),Ext.refl _⟩
   case round =>
    obtain ⟨j,hj,rfl,hV,hE2⟩:=hrel
    generalize wr=Y at *
    by_cases hjl:j<M.length
    ·have hji:(j:Int)<(M.length:Int):=by omega
     obtain rfl:=HS.out.addr (by rw [HV.out]; omega)
     obtain ⟨sr,br,or,cr,hrow,hrc,hSr⟩:=MatR.row HS.out HV.out HR.out hjl
     have hrl:=HRt.out _ (List.getElem_mem hjl)
     obtain ⟨r,hr⟩ : ∃ r,r=M[j]:=⟨_,rfl⟩
     have htk:=Htk.out j hjl
     rw [← hr] at hrow hrc hSr hrl htk
     obtain ⟨z,hz⟩ : ∃ z,z=r.getD c 0:=⟨_,rfl⟩
     rw [← hz] at htk
     have Htj:=Lib.hid htk
     have hcr:c<r.length:=by omega
     have hrow':=(hE.trans hE2).cell hrow
     have hcz:=(hE.trans hE2).cell (hSr.cell c (.int .i64 z) (by rw [hz,getD_get hcr]; exact is_get hcr))
     obtain rfl:=hSr.addr (by simp; omega)
     rw [hrl] at hrow'
     have Hjl:=Lib.hid (show (tr.take j).length=j by rw [List.length_take,Htl.out]; omega)
     have hYs:=hE2.size
     clear hrow hr hz hSr hcr hrl htk hrc
     go_wp2_with (at_builtin; refine app_int rfl _ _ 30 Tryz.underlying30 rfl rfl (hV.out.ext ((Ext.refl _).alloc _)) rfl (b:=Y.heap.size) (z:=z) (by go_simp) (by rw [Hjl.out]; omega) (by simp; omega) ?_; intro gg cap2 w8 hO8 hB8 hG8; rw [Hjl.out, ← Htj.out] at hO8; rw [Hjl.out])
     have hE8:Ext X w8:=Below.trans (hE2.alloc (.cells #[.int .i64 z] 3)) hB8
     have HO8:=Lib.hid hO8
     clear hG8 hB8 hO8
     go_wp2_with fail
     go_roundw
     case rel=>exact ⟨j+1,by omega,by go_num,HO8,hE8⟩
     case measure=>simp [intOf] <;> omega
    ·obtain rfl:j=M.length:=by omega
     have hVf:RowV X.heap.size Y u7 tr:=by have:=hV.out; rw [List.take_of_length_le (by rw [Htl.out]; exact Nat.le_refl _)] at this; exact this
     have hEY:=hE.trans hE2
     have hXs:=hE.size
     have hYs:=hE2.size
     have HVY:=Lib.hid ((hVf.mono hXs).ext ((Ext.refl Y).alloc (.cells #[u7] 30)))
     have HOY:=Lib.hid ((hO.out.ext hE2).ext ((Ext.refl Y).alloc (.cells #[u7] 30)))
     have Hcl:=Lib.hid (show ((trM n M).take c).length=c by rw [List.length_take,trM_length]; omega)
     have h1:=hVf.one
     have hsl : ∃ a l k,u7 = .slice a l k:=by
      obtain ⟨a,_,_,k,e,_⟩:=hVf.row; exact ⟨_,_,_,e⟩
     obtain ⟨ua,ul,uk,rfl⟩:=hsl
     clear hVf hV hO h1
     go_wp2_with (at_builtin; refine app_mat rfl _ _ rfl rfl HOY.out rfl (b:=Y.heap.size) (r:=tr) (by go_simp) HVY.out (by rw [Hcl.out]; omega) (by simp; omega) ?_; intro gg cap2 w8 hO8 hB8 hG8; rw [Hcl.out, ← Hsn.out] at hO8; rw [Hcl.out])
     have hE8:Ext w w8:=Below.trans (hEY.alloc (.cells #[.slice ua ul uk] 30)) hB8
     have HO8:=Lib.hid hO8
     clear hG8 hB8 hO8
     go_wp2_with fail
     go_roundw
     case rel=>exact ⟨c+1,by omega,by go_num,HO8,hE8⟩
     case measure=>simp [intOf] <;> omega
  ·obtain rfl:c=n:=by omega
   have HF:=Lib.hid (show MatO w.heap.size X u5 (trM c M) by have:=hO.out; rw [List.take_of_length_le (by simp)] at this; exact this)
   go_wp2_with fail
   go_ret2
   exact ⟨_,rfl,HF.out,hE⟩
theorem redX_bits {F:Mx} {x:List Int} {E:Nat} (hP : ∀ r∈F,pv r<r.length) (hF : ∀ r∈F,∀ z∈r,z.natAbs<2^E) (hx : ∀ z∈x,z.natAbs<2^E) : ∀ i,i≤F.length → ∀ z∈redX (F.take i) x,z.natAbs<2^(E+(E+1)*i)
 | 0,_=>by simpa [redX] using hx
 | i+1,h=>by
  have ih:=redX_bits hP hF hx i (by omega)
  have hpi:=hP _ (List.getElem_mem (show i<F.length by omega))
  rw [redX_take (by omega),getD_get (show i<F.length by omega)]
  have p0:0<2^(E+(E+1)*i):=Nat.pow_pos (by omega)
  have hq:=stepQ_abs (pv_ne hpi) p0 ih
  generalize stepQ F[i] (redX (F.take i) x)=q at *
  refine subK_all q (Q:=fun z=>z.natAbs<2^(E+(E+1)*i)) (R:=fun z=>z.natAbs<2^E) ?_ ?_ _ _ ih (fun z hz=>hF _ (List.getElem_mem (by omega)) z hz)
  ·intro z hz; exact Nat.lt_of_lt_of_le hz (Nat.pow_le_pow_right (by omega) (by have:(E+1)*(i+1)=(E+1)*i+(E+1):=Nat.mul_succ _ _; omega))
  ·intro y z hy hz
   have h1:(q*z).natAbs≤2^(E+(E+1)*i)*2^E:=by
    rw [Int.natAbs_mul]; exact Nat.mul_le_mul (Nat.le_of_lt hq) (Nat.le_of_lt hz)
   have e:2^(E+(E+1)*(i+1))=2^(E+(E+1)*i)*2^E*2:=by
    rw [show E+(E+1)*(i+1)=(E+(E+1)*i)+E+1 by have:(E+1)*(i+1)=(E+1)*i+(E+1):=Nat.mul_succ _ _; omega,Nat.pow_succ,Nat.pow_add]
   have h2:2^(E+(E+1)*i)≤2^(E+(E+1)*i)*2^E:=Nat.le_mul_of_pos_right _ (Nat.pow_pos (by omega))
   rw [e]
   have hy':y.natAbs<2^(E+(E+1)*i):=hy
   omega
theorem sclone_any {w:World} {vx:Value} {x:List Int} (hx:IntsR w vx x) (hn:0<x.length) (hl:x.length≤1000000) :
  Calls Tryz.prog 242 #[vx] w fun e w' => ∃ g cap,e = .returned (slv g x.length cap)∧OwnV 79 w.heap.size w' g cap (ss x)∧Ext w w':=by
 obtain ⟨sa,gb,go,cp,rfl,hcp,hS⟩:=hx
 obtain rfl:=hS.addr (by rw [ss_length]; exact hn)
 obtain ⟨s0,hs,hy0,hy1,hy2⟩:=info_parts Tryz.infoStr
 have HNews:=Lib.hid (show ∀ (j:Nat) (u:Value),(ss x)[j]? = some u→(w.alloc (.cells #[] 79)).cell? ((⟨gb,go,none⟩:Addr).add j)=some u from fun j u hj=>by
  have h2:=((Ext.refl w).alloc (.cells #[] 79)).cell (hS.cell j u hj)
  simpa [Addr.add_lit] using h2)
 have HOne:=Lib.hid (show ∀ u∈ss x,u.oneCell'=true from fun u hu=>by
  obtain ⟨y,_,rfl⟩:=List.mem_map.1 hu
  rfl)
 have hO:OwnV 79 w.heap.size (w.alloc (.cells #[] 79)) w.heap.size 0 []:=OwnV.of (Nat.le_refl _) (heap_new _ _) (Nat.le_refl _) (Nat.zero_le _) rfl rfl
 have HO:=Lib.hid hO
 have hE:=(Ext.refl w).alloc (.cells #[] 79)
 have knil:=fun (w:World) (a:Option Addr) (n c:Nat)=>Lib.run_eql_slice_nil (P:=Tryz.prog) w 144 79 a n c 0 0 Tryz.underlying144
 clear hO hS
 go_enter Tryz.func242,Tryz.ntmps242
 go_wp2_with (at_builtin; refine wpList_append_lies _ rfl _ _ 144 rfl w.heap.size 79 s0 _ 1 16 Tryz.underlying144 hs hy0 hy1 hy2 rfl (by omega) (slv w.heap.size 0 0) 0 [] rfl HO.out ⟨gb,go,none⟩ x.length cp (ss x) rfl (by rw [ss_length]; omega) HNews.out HOne.out hn (by unfold maxLen; omega) (by omega) (by simp) (w.heap.size+1) (by simp) ?_; intro gg cap6 w6 hown6 hgrow6 hat6 hlt6)
 have hE6:Ext w w6:=Ext.mk' (Below.grown hE hgrow6 hE.size (fun q hq=>(World.ownsRow.lt HO.out q hq).1))
 have HR:=Lib.hid (show OwnV 79 w.heap.size w6 gg cap6 (ss x) by
  unfold OwnV; rw [ss_length]; simpa using hown6)
 clear hown6 hgrow6 hat6 hlt6
 go_wp2_with fail
 go_ret
 exact ⟨gg,cap6,by simp,HR.out,hE6⟩
set_option maxHeartbeats 1000000 in
theorem reduced_any {w:World} {vF vx:Value} {F:Mx} {x:List Int} {E m:Nat} (hF:GridR w vF F) (hRt:Rect m F) (hx:IntsR w vx x) (hxl:x.length=m) (hm:0<m) (hm2:m≤1000000) (hl:F.length≤1000000) (hP : ∀ r∈F,pv r<m)
  (hbF : ∀ r∈F,∀ z∈r,z.natAbs<2^E) (hbx : ∀ z∈x,z.natAbs<2^E) (hE:2*(E+(E+1)*F.length)+2<LIM) (hL:Laid w) :
  Calls Tryz.prog 188 #[vF,vx] w fun e w' => ∃ g cap,e = .returned (slv g m cap)∧OwnV 79 w.heap.size w' g cap (ss (redX F x))∧Ext w w':=by
 have hcl:=Lib.hid (sclone_any hx (by omega) (by omega))
 rw [hxl] at hcl
 obtain ⟨sa,gb,go,cap,vs,rfl,hcap,hvl,hS,hr⟩:=hF
 have HS:=Lib.hid hS
 have HV:=Lib.hid hvl
 have HR:=Lib.hid hr
 have HRt:=Lib.hid hRt
 have HP:=Lib.hid hP
 have HbF:=Lib.hid hbF
 have Hbits:=Lib.hid (redX_bits (fun r hr=>by rw [hRt r hr]; exact hP r hr) hbF hbx)
 have HE:=Lib.hid hE
 have HL:=Lib.hid hL
 have Hxl:=Lib.hid hxl
 clear hS hvl hr hRt hP hbF hbx hE hL hx hxl
 obtain ⟨E2,hE2⟩ : ∃ E2,E2=E+(E+1)*F.length:=⟨_,rfl⟩
 have HE2:=Lib.hid hE2
 clear hE2
 go_enter Tryz.func188,Tryz.ntmps188
 go_wp2_with fail
 refine hcl.out.mono ?_
 rintro e w1 ⟨gx,cx,rfl,hX1,hE1⟩
 have hgl:=hX1.lt
 go_wp2_with fail
 go_loopw [15] (fun idx wr => ∃ i:Nat,i≤F.length∧idx = .int .i64 i∧Hid (OwnV 79 w.heap.size wr gx cx (ss (redX (F.take i) x)))∧Ext w wr) (fun idx _=>F.length-(intOf idx).toNat)
 case atStart=>exact ⟨0,by omega,by go_num,Lib.hid hX1,hE1⟩
 case round =>
  obtain ⟨i,hi',rfl,hX,hEX⟩:=hrel
  generalize wr=X at *
  by_cases hlt:i<F.length
  ·have hii:(i:Int)<(F.length:Int):=by omega
   obtain rfl:=HS.out.addr (by rw [HV.out]; omega)
   obtain ⟨sr,br,or,cr,hrow,hrc,hSr⟩:=GridR.row HS.out HV.out HR.out hlt
   have hrl:F[i].length=m:=HRt.out _ (List.getElem_mem hlt)
   have hpm:=HP.out _ (List.getElem_mem hlt)
   have hbr:=HbF.out _ (List.getElem_mem hlt)
   have hstep:=redX_take hlt x
   rw [getD_get hlt] at hstep
   obtain ⟨r,hr⟩ : ∃ r,r=F[i]:=⟨_,rfl⟩
   rw [← hr] at hrow hrc hSr hrl hpm hbr hstep
   rw [hrl] at hrow hrc
   have hrow':=hEX.cell hrow
   obtain rfl:=hSr.addr (by simp; omega)
   have hld:=Lib.hid (slead_any (w:=X) (cap:=cr) (hSr.ext hEX) (by omega))
   rw [hrl] at hld
   have hyb:=Hbits.out i hi'
   have hyl:(redX (F.take i) x).length=m:=by rw [redX_length,Hxl.out]
   obtain ⟨y,hy⟩ : ∃ y,y=redX (F.take i) x:=⟨_,rfl⟩
   rw [← hy] at hX hyb hyl hstep
   have hle:E+(E+1)*i≤E2:=by rw [HE2.out]; have:=Nat.mul_le_mul_left (E+1) hi'; omega
   have hyb2 : ∀ z∈y,z.natAbs<2^E2:=fun z hz=>Nat.lt_of_lt_of_le (hyb z hz) (Nat.pow_le_pow_right (by omega) hle)
   have hrb2 : ∀ z∈r,z.natAbs<2^E2:=fun z hz=>Nat.lt_of_lt_of_le (hbr z hz) (Nat.pow_le_pow_right (by omega) (by rw [HE2.out]; omega))
   have hrp:r.getD (pv r) 0≠0:=pv_ne (by omega)
   have hq2:(stepQ r y).natAbs<2^E2:=stepQ_abs hrp (Nat.pow_pos (by omega)) hyb2
   have hEL:2*E2+2<LIM:=by rw [HE2.out]; exact HE.out
   have cq:=hX.out.cell (j:=pv r) (by rw [ss_length,hyl]; exact hpm)
   have hSrX:=hSr.ext hEX
   have cr0:=hSrX.cell (pv r) (I (r.getD (pv r) 0)) (by
    have h6:pv r<(ss r).length:=by rw [ss_length,hrl]; exact hpm
    rw [List.getElem?_eq_getElem h6,ss_at (by omega) h6])
   rw [ss_at (by omega)] at cq
   have hdy:nd (y.getD (pv r) 0)<LIM:=by
    rw [getD_get (by omega)]
    have:=nd_lt2 (hyb2 _ (List.getElem_mem (by omega:pv r<y.length))); omega
   have hdr:nd (r.getD (pv r) 0)<LIM:=by
    rw [getD_get (by omega)]
    have:=nd_lt2 (hrb2 _ (List.getElem_mem (by omega:pv r<r.length))); omega
   have Hdm:=Lib.hid (fun W (hW:Ext w W)=>DivMod_any (a:=y.getD (pv r) 0) (b:=r.getD (pv r) 0) (w:=W) hdy hdr hrp (HL.out.ext hW))
   have hne:br≠gx:=by
    have h7:=hSr.lt (by rw [ss_length]; omega)
    omega
   have Htk:=Lib.hid (fun W (hW:Ext X W)=>by
    have h8:=stake_any (w0:=w) (w:=W) (ga:=gx) (ca:=cx) (k:=stepQ r y) (cb:=cr) (hX.out.ext hW) (hSrX.ext hW) hne (by rw [hrl,hyl]) (by omega) (less_big hyb2 hrb2 hq2 hEL) HL.out (hEX.trans hW)
    rw [hyl] at h8
    exact h8)
   obtain ⟨p,hp⟩ : ∃ p,p=pv r:=⟨_,rfl⟩
   obtain ⟨a,ha⟩ : ∃ a,a=y.getD p 0:=⟨_,rfl⟩
   obtain ⟨b,hb⟩ : ∃ b,b=r.getD p 0:=⟨_,rfl⟩
   have hqe:stepQ r y=a.fdiv b:=by rw [ha,hb,hp]; rfl
   rw [← hp] at cq cr0 hpm hld Hdm
   rw [← ha] at cq Hdm
   rw [← hb] at cr0 Hdm
   rw [hqe] at Htk hstep
   have Hstep:=Lib.hid hstep
   have hpmI:(p:Int)<(m:Int):=by omega
   have HX:=hX
   clear hr hrow hrc hSr hrl hbr hyb hyl hy hle hyb2 hrb2 hrp hq2 hEL hSrX hdy hdr hne hp ha hb hqe hstep hX
   go_wp2_with fail
   refine hld.out.mono ?_
   rintro e W1 ⟨rfl,hW1⟩
   have k1:=cell_regrown (hW1.cell cq)
   have k2:=cell_regrown (hW1.cell cr0)
   have bD:=Lib.hid (quietC (w:=W1) (fun W h=>Hdm.out W (hEX.trans (hW1.trans h))))
   clear hld
   go_wp2_with fail
   refine wp_region_quiet_below (by kernel_rfl) (by kernel_rfl) ?_
   repeat (quiet_step (exact bD.out _ _))
   refine wpQuiet_nil ?_
   intro _ hw'
   obtain ⟨⟨dq,osq⟩,hw''⟩:=hw'
   subst hw''
   have hE6:=hW1.trans (ext_regrown W1 dq osq)
   clear bD k1 k2 Hdm
   generalize hW6:grow (redrawn _ _) _=W6 at *
   clear hW6
   go_wp2_with fail
   refine (Htk.out _ hE6).mono ?_
   rintro e W7 ⟨rfl,hX7,hG7⟩
   rw [← Hstep.out] at hX7
   have hE7:=ext_trans_grown (hEX.trans hE6) hG7 hgl.1
   have HX7:=Lib.hid hX7
   clear hX7 hG7 Htk
   go_wp2_with fail
   go_roundw
   case rel=>exact ⟨i+1,by omega,by go_num,HX7,hE7⟩
   case measure=>simp [intOf] <;> omega
  ·have hie:i=F.length:=by omega
   subst hie
   go_wp2_with fail
   go_ret
   have h1:=hX.out
   rw [List.take_length] at h1
   exact ⟨gx,cx,rfl,h1,hEX⟩
def sizeE (M:Mx) (b:List Int):Int:=if checkM M=0 then if chkRow b=0 then if 0<M.length∧b.length≠ncols M then 5 else 0 else chkRow b else checkM M
theorem sizeE_ok {M:Mx} {b:List Int} (h:sizeE M b=0):checkM M=0∧chkRow b=0∧(0<M.length→b.length=ncols M):=by
 unfold sizeE at h
 split at h
 ·split at h
  ·split at h
   ·cases h
   ·rename_i h1 h2 h3
    exact ⟨h1,h2,fun h5=>Classical.byContradiction fun h6=>h3 ⟨h5,h6⟩⟩
  ·exact absurd h ‹_›
 ·exact absurd h ‹_›
theorem sized_any {w:World} {vm vb:Value} {M:Mx} {b:List Int} (hM:MatR w vm M) (hb:RowR w vb b) :
  Calls Tryz.prog 182 #[vm,vb] w fun e w'=>e = .returned (.int .i64 (sizeE M b))∧Ext w w':=by
 have hck:=Lib.hid (tableCheck_any hM)
 have hrk:=Lib.hid (fun W (hW:Ext w W)=>rowCheck_any (hb.ext hW))
 obtain ⟨sr,br,or,cr,hbv,hbc,hSb⟩:=hb
 obtain ⟨sa,gb,go,cap,vs,hmv,hcap,hvl,hS,hr⟩:=hM
 by_cases h0:checkM M=0
 ·rw [h0] at hck
  by_cases h1:chkRow b=0
  ·rw [h1] at hrk
   by_cases hM0:M.length=0
   ·have he:sizeE M b=0:=by unfold sizeE; rw [if_pos h0,if_pos h1,if_neg (by omega)]
    rw [he]
    subst hmv hbv
    rw [hM0] at hck ⊢
    clear hS hvl hr hSb h0 h1 he hM0
    go_enter Tryz.func182,Tryz.ntmps182
    go_wp2_with fail
    refine hck.out.mono ?_
    rintro e w1 ⟨rfl,hE1⟩
    go_wp2_with fail
    refine (hrk.out _ hE1).mono ?_
    rintro e w2 ⟨rfl,hE2⟩
    go_wp2_with fail
    go_ret
    exact ⟨rfl,hE1.trans hE2⟩
   ·have hMp:(0:Int)<(M.length:Int):=by omega
    obtain ⟨s0,c0,rfl,hrow⟩:=ncols_row hS hvl hr (by omega)
    subst hmv hbv
    by_cases hl:b.length=ncols M
    ·have he:sizeE M b=0:=by unfold sizeE; rw [if_pos h0,if_pos h1,if_neg (by omega)]
     rw [he]
     rw [← hl] at hrow
     clear hS hvl hr hSb h0 h1 he hM0 hl
     go_enter Tryz.func182,Tryz.ntmps182
     go_wp2_with fail
     refine hck.out.mono ?_
     rintro e w1 ⟨rfl,hE1⟩
     go_wp2_with fail
     refine (hrk.out _ hE1).mono ?_
     rintro e w2 ⟨rfl,hE2⟩
     have hrow2:=(hE1.trans hE2).cell hrow
     go_wp2_with fail
     go_ret
     exact ⟨rfl,hE1.trans hE2⟩
    ·have he:sizeE M b=5:=by unfold sizeE; rw [if_pos h0,if_pos h1,if_pos ⟨by omega,hl⟩]
     have hlb:((b.length:Int)==(ncols M:Int))=false:=beq_eq_false_iff_ne.2 (by omega)
     have hlb2:((b.length:Int) != (ncols M:Int))=true:=by simp [bne,hlb]
     have hlI : ¬ (b.length:Int)=(ncols M:Int):=by omega
     rw [he]
     clear hS hvl hr hSb h0 h1 he hM0
     go_enter Tryz.func182,Tryz.ntmps182
     go_wp2_with fail
     refine hck.out.mono ?_
     rintro e w1 ⟨rfl,hE1⟩
     go_wp2_with fail
     refine (hrk.out _ hE1).mono ?_
     rintro e w2 ⟨rfl,hE2⟩
     have hrow2:=(hE1.trans hE2).cell hrow
     go_wp2_with fail
     go_ret
     exact ⟨rfl,hE1.trans hE2⟩
  ·obtain ⟨q,hq⟩ : ∃ q,q=chkRow b:=⟨_,rfl⟩
   have he:sizeE M b=q:=by unfold sizeE; rw [if_pos h0,if_neg h1,hq]
   have hqb:(q==0)=false:=beq_eq_false_iff_ne.2 (by rw [hq]; exact h1)
   have hqb2:(q != 0)=true:=by simp [bne,hqb]
   rw [he]
   rw [← hq] at hrk
   subst hmv hbv
   clear hS hvl hr hSb h0 h1 he hq
   go_enter Tryz.func182,Tryz.ntmps182
   go_wp2_with fail
   refine hck.out.mono ?_
   rintro e w1 ⟨rfl,hE1⟩
   go_wp2_with fail
   refine (hrk.out _ hE1).mono ?_
   rintro e w2 ⟨rfl,hE2⟩
   go_wp2_with fail
   go_ret
   exact ⟨rfl,hE1.trans hE2⟩
 ·obtain ⟨q,hq⟩ : ∃ q,q=checkM M:=⟨_,rfl⟩
  have he:sizeE M b=q:=by unfold sizeE; rw [if_neg h0,hq]
  have hqb:(q==0)=false:=beq_eq_false_iff_ne.2 (by rw [hq]; exact h0)
  have hqb2:(q != 0)=true:=by simp [bne,hqb]
  rw [he]
  rw [← hq] at hck
  subst hmv hbv
  clear hS hvl hr hSb h0 he hq
  go_enter Tryz.func182,Tryz.ntmps182
  go_wp2_with fail
  refine hck.out.mono ?_
  rintro e w1 ⟨rfl,hE1⟩
  go_wp2_with fail
  go_ret
  exact ⟨rfl,hE1⟩
end Go.Proofs.YtjnpakablgommaaGreatDoor
