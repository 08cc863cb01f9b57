/- Part 10, beside the shared parts, of the proof of the claim: contracts and plain laws; no condition. -/
import Derived.Test.YtjnpakablgommaaGreatDoorX09
set_option maxRecDepth 100000
namespace Go.Proofs.YtjnpakablgommaaGreatDoor
open Go.RowKit Go.Sort
theorem joinNil_any {w:World} {sa:Option Addr} {c:Nat} {s:ByteArray}:Calls Tryz.prog 96 #[.slice sa 0 c,.string s] w fun e w'=>e = .returned (.string ⟨#[]⟩)∧Ext w w':=by
 go_enter Tryz.func96,Tryz.ntmps96
 go_wp2_with fail
 go_ret
 exact ⟨rfl,Ext.refl _⟩
theorem joinA_all {w:World} {B:Nat} {v:Value} {xs:List ByteArray} {s:List UInt8} (h:StrO B w v xs) (h1:xs.length≤1000) (hj:(Lib.join (xs.map (·.data.toList)) s).length≤1000000) :
  Calls Tryz.prog 96 #[v,.string ⟨s.toArray⟩] w fun e w'=>e = .returned (.string (joinA xs s))∧Ext w w':=by
 by_cases h0:xs=[]
 ·subst h0
  obtain ⟨a,c,rfl⟩:=h.slice
  exact joinNil_any
 ·obtain ⟨g,cap,rfl⟩:=h.sh rfl (List.length_pos_iff.2 h0)
  exact joinA_any h rfl (List.length_pos_iff.2 h0) h1 hj
def tuTx (P:List Int) (G:List (List Rat)):ByteArray:=joinA (G.map (szTx P)) [44,32]
theorem szTx_len {P:List Int} {l:List Rat} (h:ShQ l) (h64 : ∀ z∈P,I64 z):(szTx P l).data.toList.length≤91*l.length+1:=by
 have h1:=szX_len (P:=P) h (fun k=>by
  rw [List.getD_eq_getElem?_getD]
  by_cases hk:k<P.length
  ·rw [List.getElem?_eq_getElem hk]; exact itoa_len64 (h64 _ (List.getElem_mem hk))
  ·rw [List.getElem?_eq_none (by omega)]; show (Lib.itoa 0).length≤21; rw [itoa_zero]; decide) l.length
 have h2:=szX_le P l l.length
 unfold szTx
 split
 ·show 1≤_; omega
 ·unfold joinA
  show (Lib.join _ [32]).toArray.toList.length≤_
  rw [List.toList_toArray]
  have:=joinA_le (b:=90) [32] (r:=(szX P l l.length).map (·.data.toList)) (fun x hx=>by
   obtain ⟨y,hy,rfl⟩:=List.mem_map.1 hx
   exact h1 y hy)
  rw [List.length_map] at this
  simp only [List.length_cons,List.length_nil] at this
  omega
theorem SmP.i64 {z:Int} (h:SmP z):I64 z:=by unfold SmP at h; unfold I64; omega
set_option maxHeartbeats 4000000 in
theorem tuText_any {w:World} {P:List Int} {C M:Mx} {G:List (List Rat)} {sp:Option Addr} {cp:Nat} {sc:Option Addr} {lc cc:Nat} {sm:Option Addr} {lm cm:Nat} {sg:Option Addr} {lg cg:Nat} (h:TuV w P C M G sp cp sc lc cc sm lm cm sg lg cg) (hL:Laid w) :
  Calls Tryz.prog 37 #[tuS P sp cp sc lc cc sm lm cm sg lg cg] w fun e w'=>e = .returned (.tuple #[.string (tuTx P G),.int .i64 0])∧Ext w w':=by
 have hck:=Lib.hid (fun W (hW:Ext w W)=>tuCheck_any (h.ext hW) (hL.ext hW))
 obtain ⟨hT,hG,hln,hcl,hsh⟩:=h
 have hm4:=hT.m4
 have hp4:=hT.ok.p4
 have h64 : ∀ z∈P,I64 z:=fun z hz=>(hT.ok.pr z hz).i64
 have Htx:=Lib.hid (fun W v l (hW:Ext w W) (hl:l∈G) (hv:SzR W v l)=>szText_any (w:=W) (v:=v) (hT.hP.ext hW) (fun W2 h2=>hT.pchk W2 (hW.trans h2)) hv (hcl l hl) (hsh l hl) h64 (by omega) (hL.ext hW))
 have Hjl:Hid ((Lib.join ((G.map (szTx P)).map (·.data.toList)) [44,32]).length≤1000000):=Lib.hid (by
  have:=joinA_le (b:=365) [44,32] (r:=(G.map (szTx P)).map (·.data.toList)) (fun x hx=>by
   obtain ⟨y,hy,rfl⟩:=List.mem_map.1 hx
   obtain ⟨l,hl,rfl⟩:=List.mem_map.1 hy
   have h1:=szTx_len (P:=P) (hsh l hl) h64
   have h2:=hcl l hl
   omega)
  simp only [List.length_map,List.length_cons,List.length_nil] at this
  have h3:(365+(0+1+1))*G.length≤(365+(0+1+1))*4:=Nat.mul_le_mul_left _ (by omega)
  omega)
 have hX:=(Ext.refl w).alloc (.cells #[.slice sp P.length cp,.slice sc lc cc,.slice sm lm cm,.slice sg lg cg] 67)
 have x0:(w.alloc (.cells #[.slice sp P.length cp,.slice sc lc cc,.slice sm lm cm,.slice sg lg cg] 67)).cell? ⟨w.heap.size,0,none⟩=some (.slice sp P.length cp):=by go_simp
 have x1:(w.alloc (.cells #[.slice sp P.length cp,.slice sc lc cc,.slice sm lm cm,.slice sg lg cg] 67)).cell? ⟨w.heap.size,1,none⟩=some (.slice sc lc cc):=by go_simp
 have x2:(w.alloc (.cells #[.slice sp P.length cp,.slice sc lc cc,.slice sm lm cm,.slice sg lg cg] 67)).cell? ⟨w.heap.size,2,none⟩=some (.slice sm lm cm):=by go_simp
 have x3:(w.alloc (.cells #[.slice sp P.length cp,.slice sc lc cc,.slice sm lm cm,.slice sg lg cg] 67)).cell? ⟨w.heap.size,3,none⟩=some (.slice sg lg cg):=by go_simp
 obtain ⟨sa',gb,go,cap',vs,ev,hcap,hvl,hS,hr⟩:=hG
 injection ev with ev1 ev2 ev3
 subst ev1 ev2 ev3
 have HS:=Lib.hid hS
 have Hr:=Lib.hid hr
 have Hv:=Lib.hid hvl
 have Hg4:=Lib.hid (show G.length≤4 by omega)
 have hdef:tuTx P G=joinA (G.map (szTx P)) [44,32]:=rfl
 generalize tuTx P G=tx at *
 have Hdef:=Lib.hid hdef
 clear hT hln hcl hsh hm4 hp4 h64 hL hS hr hvl hcap hdef
 go_enter Tryz.func37,Tryz.ntmps37
 go_wp2_with fail
 refine (hck.out _ hX).mono ?_
 rintro e X0 ⟨rfl,hE0⟩
 have e0:=hX.trans hE0
 replace x0:=hE0.cell x0
 replace x3:=hE0.cell x3
 have hX0:w.heap.size+1≤X0.heap.size:=by have:=hE0.size; simp at this; omega
 have HX0:=Lib.hid hX0
 clear hck hX hE0 x1 x2 hX0
 go_wp2_with fail
 go_loopw [5,18] (fun u iv wr => ∃ i:Nat,i≤G.length∧iv = .int .i64 i∧Hid (StrO X0.heap.size wr u ((G.take i).map (szTx P)))∧Ext X0 wr) (fun _ iv _=>G.length-(intOf iv).toNat)
 case atStart=>exact ⟨0,by omega,by go_num,Lib.hid (StrO.nil _ _),Ext.refl _⟩
 case round =>
  obtain ⟨i,hi,rfl,HV,hE⟩:=hrel
  generalize wr=Y at *
  have y0:=hE.cell x0
  have eY:=e0.trans hE
  by_cases hlt:i<G.length
  ·have hii:(i:Int)<(G.length:Int):=by omega
   have hiv:i<vs.length:=by rw [Hv.out]; exact hlt
   obtain rfl:=HS.out.addr (by omega)
   have k0:=HS.out.cell i _ (List.getElem?_eq_getElem hiv)
   have hsz:=Hr.out i hlt hiv
   have k1:=eY.cell k0
   have htx:=Lib.hid (fun W (hW:Ext Y W)=>Htx.out W vs[i] G[i] (eY.trans hW) (List.getElem_mem hlt) (hsz.ext (eY.trans hW)))
   have Hsn:=Lib.hid (show (G.take (i+1)).map (szTx P)=(G.take i).map (szTx P)++[szTx P G[i]] by rw [List.take_succ_eq_append_getElem hlt,List.map_append]; rfl)
   have Hil:=Lib.hid (show ((G.take i).map (szTx P)).length=i by simp; omega)
   obtain ⟨xa,xb,xo,xc,ex,q1,q2,q3⟩:=hsz
   rw [ex] at k0 k1 htx
   clear q1 q2 q3 ex
   generalize szTx P G[i]=z at *
   generalize G[i].length=m at *
   have hi4:i<4:=by have:=Hg4.out; omega
   clear k0 hiv
   go_wp2_with fail
   refine (htx.out _ (Ext.refl _)).mono ?_
   rintro e W ⟨rfl,hW⟩
   have HVZ:=Lib.hid (HV.out.ext (hW.alloc (.cells #[Value.string z] 9)))
   have hWs:X0.heap.size≤W.heap.size:=by have:=hE.size; have:=hW.size; omega
   clear htx
   go_wp2_with (at_builtin; refine app_str rfl _ _ 160 Tryz.underlying160 rfl (B:=X0.heap.size) rfl HVZ.out (b:=W.heap.size) (z:=z) rfl (by go_simp) (by rw [Hil.out]; omega) (by simp; omega) ?_; intro g9 cap9 w9 hO9 hB9 _; rw [← Hsn.out,Hil.out] at hO9; have HO9:=Lib.hid hO9; have e9:=Below.trans (hE.trans (hW.alloc (.cells #[Value.string z] 9))) hB9; clear hO9 hB9)
   go_wp2_with fail
   go_roundw
   case rel=>exact ⟨i+1,by omega,by go_num,HO9,e9⟩
   case measure=>simp [intOf] <;> omega
  ·obtain rfl:i=G.length:=by omega
   have hii : ¬ (G.length:Int)<(G.length:Int):=by omega
   have HV:=Lib.hid (show StrO X0.heap.size Y u5 (G.map (szTx P)) by have:=HV.out; rw [List.take_length] at this; exact this)
   have hj:=Lib.hid (joinA_all (s:=[44,32]) HV.out (by rw [List.length_map]; have:=Hg4.out; omega) Hjl.out)
   clear hlt
   go_wp2_with fail
   refine hj.out.mono ?_
   rintro e W ⟨rfl,hW⟩
   go_wp2_with fail
   go_ret2
   exact ⟨ret_val (congrArg (fun z=>Value.tuple #[.string z,.int .i64 0]) Hdef.out.symm),eY.trans hW⟩
end Go.Proofs.YtjnpakablgommaaGreatDoor
namespace Go.Proofs.YtjnpakablgommaaGreatDoor
theorem k24_e1:tuE 3 mtM [-1,1,0]=0:=by decide +kernel
theorem k24_e2:tuE 3 mtM [-2,0,1]=0:=by decide +kernel
theorem k24_l1:erL 3 mtM mtG [-1,1,0]=[1,-1,1/4]:=by decide +kernel
theorem k24_l2:erL 3 mtM mtG [-2,0,1]=[0,0,0]:=by decide +kernel
theorem k24_p:decide (tuL 3 mtM mtG (unitL 3 0)=nbL (unitL 3 0))=true:=by decide +kernel
theorem k24_t:tuTx mtP mtG=⟨#[50,44,32,50,32,53,94,40,49,47,52,41]⟩:=by decide +kernel
theorem m1_parts:((-1:Rat)).num = -1∧(((-1:Rat)).den:Int)=1:=by decide +kernel
theorem itoa_m1:Lib.itoa (-1)=[45,49]:=by decide +kernel
theorem I_m1:I ((-1:Rat)).num = .string ⟨#[45,49]⟩∧I (((-1:Rat)).den:Int) = .string ⟨#[49]⟩:=by
 unfold I S
 rw [m1_parts.1,m1_parts.2,itoa_one,itoa_m1]; exact ⟨rfl,rfl⟩
theorem nd_m1:nd (-1)=1:=Lib.nDigits_small (u:=1) (by omega)
theorem k24_s1:szE (erL 3 mtM mtG [-1,1,0])=0:=by
 rw [k24_l1]
 refine szE_sh (fun r hr => ?_)
 simp only [List.mem_cons,List.not_mem_nil,or_false] at hr
 rcases hr with rfl | rfl | rfl
 ·exact mtG_ok.2 _ (List.mem_cons_self) _ (List.mem_cons_self)
 ·rw [m1_parts.1,m1_parts.2,nd_m1,nd_1]; omega
 ·exact mtG_ok.2 [1,0,1/4] (by simp [mtG]) _ (by simp)
theorem k24_s2:szE (erL 3 mtM mtG [-2,0,1])=0:=by
 rw [k24_l2]
 refine szE_sh (fun r hr => ?_)
 simp only [List.mem_cons,List.not_mem_nil,or_false,or_self] at hr
 subst hr
 exact mtG_ok.2 [1,0,0] (by simp [mtG]) _ (by simp)
end Go.Proofs.YtjnpakablgommaaGreatDoor
namespace Go.Proofs.YtjnpakablgommaaGreatDoor
open Go.RowKit Go.Sort
theorem RV_m1:RV ((-1:Int):Rat) = .agg #[.string ⟨#[45,49]⟩,.string ⟨#[49]⟩]:=by
 have e:(((-1:Int)):Rat)=(-1:Rat):=rfl
 rw [e]
 show Value.agg #[I ((-1:Rat)).num,I (((-1:Rat)).den:Int)]=_
 rw [I_m1.1,I_m1.2]
set_option maxHeartbeats 8000000 in
theorem known24_any {w:World} (hL:Laid w):Calls Tryz.prog 22 #[] w fun e w'=>e = .returned (.bool true)∧Ext w w':=by
 have HL:=Lib.hid hL
 have hw0:=Lib.hid (fun W (hW:Ext w W)=>whole24_any (n:=0) (by omega) (hL.ext hW))
 have hw1:=Lib.hid (fun W (hW:Ext w W)=>whole24_any (n:=1) (by omega) (hL.ext hW))
 have hwm:=Lib.hid (fun W (hW:Ext w W)=>whole24_any (n := -1) (by omega) (hL.ext hW))
 have hp:=Lib.hid (fun W (hW:Ext w W)=>part24_any (n:=1) (d:=4) (by omega) (by omega) (by omega) (hL.ext hW))
 rw [RV_zero] at hw0
 rw [RV_one] at hw1
 rw [RV_m1] at hwm
 rw [RV_four] at hp
 clear hL
 go_enter Tryz.func22,Tryz.ntmps22
 go_wp2_with fail
 refine (meantone24_any HL.out).mono ?_
 rintro e W1 ⟨t,rfl,ht,hE1⟩
 obtain ⟨sp,cp,sc,lc,cc,sm,lm,cm,sg,lg,cg,rfl,hT⟩:=ht
 have ea:=(Ext.refl W1).alloc (.cells #[.slice sp mtP.length cp,.slice sc lc cc,.slice sm lm cm,.slice sg lg cg] 67)
 have e1:=hE1.trans ea
 have x0:(W1.alloc (.cells #[.slice sp mtP.length cp,.slice sc lc cc,.slice sm lm cm,.slice sg lg cg] 67)).cell? ⟨W1.heap.size,0,none⟩=some (.slice sp mtP.length cp):=by go_simp
 have x1:(W1.alloc (.cells #[.slice sp mtP.length cp,.slice sc lc cc,.slice sm lm cm,.slice sg lg cg] 67)).cell? ⟨W1.heap.size,1,none⟩=some (.slice sc lc cc):=by go_simp
 have x2:(W1.alloc (.cells #[.slice sp mtP.length cp,.slice sc lc cc,.slice sm lm cm,.slice sg lg cg] 67)).cell? ⟨W1.heap.size,2,none⟩=some (.slice sm lm cm):=by go_simp
 have x3:(W1.alloc (.cells #[.slice sp mtP.length cp,.slice sc lc cc,.slice sm lm cm,.slice sg lg cg] 67)).cell? ⟨W1.heap.size,3,none⟩=some (.slice sg lg cg):=by go_simp
 have HT:=Lib.hid (hT.ext ea)
 obtain ⟨X,hXd⟩ : ∃ X,X=W1.alloc (.cells #[.slice sp mtP.length cp,.slice sc lc cc,.slice sm lm cm,.slice sg lg cg] 67):=⟨_,rfl⟩
 rw [← hXd] at x0 x1 x2 x3 HT e1
 have eR:=(Ext.refl X).alloc (.cells #[.int .i64 (-1),.int .i64 1,.int .i64 0] 3)
 have r1:RowR (X.alloc (.cells #[.int .i64 (-1),.int .i64 1,.int .i64 0] 3)) (.slice (some ⟨X.heap.size,0,none⟩) 3 3) [-1,1,0]:=row3N (by go_simp) (by go_simp) (by go_simp)
 have HE1:=Lib.hid (show Calls Tryz.prog 31 #[tuS mtP sp cp sc lc cc sm lm cm sg lg cg,.slice (some ⟨X.heap.size,0,none⟩) 3 3] (X.alloc (.cells #[.int .i64 (-1),.int .i64 1,.int .i64 0] 3)) (ErPost (X.alloc (.cells #[.int .i64 (-1),.int .i64 1,.int .i64 0] 3)) 3 mtM mtG [-1,1,0]) from tuError_any (HT.out.ext eR) r1 (HL.out.ext (e1.trans eR)))
 have hXs:X.heap.size=W1.heap.size+1:=by rw [hXd]; simp
 rw [hXs] at HE1 r1
 rw [hXd] at HE1
 clear hT hE1 ea r1 hXs
 go_wp2_with fail
 refine HE1.out.mono ?_
 rw [← hXd]
 clear HE1 hXd
 rintro e Y ⟨hE2,(⟨q,_⟩ | ⟨_,q,_⟩ | ⟨_,_,g1,rfl,hO1⟩)⟩
 ·exact absurd k24_e1 q
 ·exact absurd k24_s1 q
 have e2:=eR.trans hE2
 replace x0:=e2.cell x0
 replace x1:=e2.cell x1
 replace x2:=e2.cell x2
 replace x3:=e2.cell x3
 have HT2:=Lib.hid (HT.out.ext e2)
 have e3:=e1.trans e2
 have HO1:=Lib.hid (show SzO X.heap.size Y g1 [1,-1,1/4] by have:=hO1.mono (B':=X.heap.size) (by simp); rw [k24_l1] at this; exact this)
 clear hE2 e2 eR hO1 HT e1
 obtain ⟨bt,hbt⟩ : ∃ b,b=W1.heap.size:=⟨_,rfl⟩
 rw [← hbt] at x0 x1 x2 x3 ⊢
 clear hbt
 have eS:=(Ext.refl Y).alloc (.cells #[.int .i64 (-2),.int .i64 0,.int .i64 1] 3)
 have r2:RowR (Y.alloc (.cells #[.int .i64 (-2),.int .i64 0,.int .i64 1] 3)) (.slice (some ⟨Y.heap.size,0,none⟩) 3 3) [-2,0,1]:=row3N (by go_simp) (by go_simp) (by go_simp)
 have HE2:=Lib.hid (show Calls Tryz.prog 31 #[tuS mtP sp cp sc lc cc sm lm cm sg lg cg,.slice (some ⟨Y.heap.size,0,none⟩) 3 3] (Y.alloc (.cells #[.int .i64 (-2),.int .i64 0,.int .i64 1] 3)) (ErPost (Y.alloc (.cells #[.int .i64 (-2),.int .i64 0,.int .i64 1] 3)) 3 mtM mtG [-2,0,1]) from tuError_any (HT2.out.ext eS) r2 (HL.out.ext (e3.trans eS)))
 clear r2
 go_wp2_with fail
 refine HE2.out.mono ?_
 rintro e Z ⟨hE4,(⟨q,_⟩ | ⟨_,q,_⟩ | ⟨_,_,g2,rfl,hO2⟩)⟩
 ·exact absurd k24_e2 q
 ·exact absurd k24_s2 q
 have e4:=eS.trans hE4
 replace x0:=e4.cell x0
 replace x1:=e4.cell x1
 replace x2:=e4.cell x2
 replace x3:=e4.cell x3
 have HT3:=Lib.hid (HT2.out.ext e4)
 have e5:=e3.trans e4
 have HO1:=Lib.hid (HO1.out.ext e4)
 have HO2:=Lib.hid (show SzO Y.heap.size Z g2 [0,0,0] by have:=hO2.mono (B':=Y.heap.size) (by simp); rw [k24_l2] at this; exact this)
 have HPu:=Lib.hid (show Calls Tryz.prog 32 #[tuS mtP sp cp sc lc cc sm lm cm sg lg cg] Z fun e w'=>e = .returned (.tuple #[.bool true,.int .i64 0])∧Ext Z w' from by
  have h:=tuPure_any HT3.out (HL.out.ext e5)
  have h2:decide (tuL mtP.length mtM mtG (unitL mtP.length 0)=nbL (unitL mtP.length 0))=true:=k24_p
  rw [h2] at h; exact h)
 clear hE4 e4 eS hO2 HT2 e3 HE2
 go_wp2_with fail
 refine HPu.out.mono ?_
 rintro e Z2 ⟨rfl,hE6⟩
 replace x0:=hE6.cell x0
 replace x1:=hE6.cell x1
 replace x2:=hE6.cell x2
 replace x3:=hE6.cell x3
 have e7:=e5.trans hE6
 have HTx:=Lib.hid (tuText_any (HT3.out.ext hE6) (HL.out.ext e7))
 rw [k24_t] at HTx
 clear HPu
 go_wp2_with fail
 refine HTx.out.mono ?_
 rintro e Z3 ⟨rfl,hE8⟩
 have e9:=e7.trans hE8
 have HO1:=HO1.out.ext (hE6.trans hE8)
 have HO2:=HO2.out.ext (hE6.trans hE8)
 have c00:Z3.cell? ⟨g1,0,none⟩=some (.string ⟨#[49]⟩):=by have:=(HO1.cells (i:=0) (by simp)).1; rw [← I_one1.1]; exact this
 have c01:Z3.cell? ⟨g1,1,none⟩=some (.string ⟨#[49]⟩):=by have:=(HO1.cells (i:=0) (by simp)).2; rw [← I_one1.2]; exact this
 have c10:Z3.cell? ⟨g1,2,none⟩=some (.string ⟨#[45,49]⟩):=by have:=(HO1.cells (i:=1) (by simp)).1; rw [← I_m1.1]; exact this
 have c11:Z3.cell? ⟨g1,3,none⟩=some (.string ⟨#[49]⟩):=by have:=(HO1.cells (i:=1) (by simp)).2; rw [← I_m1.2]; exact this
 have c20:Z3.cell? ⟨g1,4,none⟩=some (.string ⟨#[49]⟩):=by have:=(HO1.cells (i:=2) (by simp)).1; rw [← I_four4.1]; exact this
 have c21:Z3.cell? ⟨g1,5,none⟩=some (.string ⟨#[52]⟩):=by have:=(HO1.cells (i:=2) (by simp)).2; rw [← I_four4.2]; exact this
 have d00:Z3.cell? ⟨g2,0,none⟩=some (.string ⟨#[48]⟩):=by have:=(HO2.cells (i:=0) (by simp)).1; rw [← I_zeroR.1]; exact this
 have d01:Z3.cell? ⟨g2,1,none⟩=some (.string ⟨#[49]⟩):=by have:=(HO2.cells (i:=0) (by simp)).2; rw [← I_zeroR.2]; exact this
 have d20:Z3.cell? ⟨g2,4,none⟩=some (.string ⟨#[48]⟩):=by have:=(HO2.cells (i:=2) (by simp)).1; rw [← I_zeroR.1]; exact this
 have d21:Z3.cell? ⟨g2,5,none⟩=some (.string ⟨#[49]⟩):=by have:=(HO2.cells (i:=2) (by simp)).2; rw [← I_zeroR.2]; exact this
 clear HTx HT3 e5 hE6 e7 hE8 HO1 HO2 x0 x1 x2 x3
 go_wp2_with fail
 have d0:Ext Z3 Z3.drew:=(Ext.refl Z3).drew
 refine wp_region_held_tail (S:=fun W=>Ext Z3 W) 66 (by kernel_rfl) (by simp) ?_
 intro inv
 generalize Z3.drew=Z4 at *
 refine wpAnyLH_take (i:=0) (v := .int .i64 0) rfl (by kernel_rfl) (fun _ _ _ h=>h) (.inl ⟨by rfl,fun W hW=>by go_simp⟩) d0 inv ?_
 intro inv
 go_simp
 refine wpAnyLH_take (i:=1) (v := .bool true) rfl (by kernel_rfl) (fun _ _ _ h=>h) (.inl ⟨by rfl,fun W hW=>by go_simp⟩) d0 inv ?_
 intro inv
 go_simp
 refine wpAnyLH_take (i:=2) (v := .bool true) rfl (by kernel_rfl) (fun _ _ _ h=>h) (.inl ⟨by rfl,fun W hW=>by go_simp⟩) d0 inv ?_
 intro inv
 go_simp
 refine wpAnyLH_take (i:=3) (v:=slv g1 3 3) rfl (by kernel_rfl) (fun _ _ _ h=>h) (.inl ⟨by rfl,fun W hW=>by go_simp⟩) d0 inv ?_
 intro inv
 go_simp
 refine wpAnyLH_take (i:=4) (v := .int .i64 3) rfl (by kernel_rfl) (fun _ _ _ h=>h) (.inl ⟨by rfl,fun W hW=>by go_simp⟩) d0 inv ?_
 intro inv
 go_simp
 refine wpAnyLH_take (i:=5) (v := .bool true) rfl (by kernel_rfl) (fun _ _ _ h=>h) (.inl ⟨by rfl,fun W hW=>by go_simp⟩) d0 inv ?_
 intro inv
 go_simp
 refine wpAnyLH_take (i:=6) (v := .bool true) rfl (by kernel_rfl) (fun _ _ _ h=>h) (.inl ⟨by rfl,fun W hW=>by go_simp⟩) d0 inv ?_
 intro inv
 go_simp
 refine wpAnyLH_take (i:=7) (v := .bool true) rfl (by kernel_rfl) (fun _ _ _ h=>h) (.inl ⟨by rfl,fun W hW=>by go_simp⟩) d0 inv ?_
 intro inv
 go_simp
 refine wpAnyLH_take (i:=8) (v:=slv g1 3 3) rfl (by kernel_rfl) (fun _ _ _ h=>h) (.inl ⟨by rfl,fun W hW=>by go_simp⟩) d0 inv ?_
 intro inv
 go_simp
 refine wpAnyLH_take (i:=9) (v := .pointer (some ⟨g1,0,none⟩)) rfl (by kernel_rfl) (fun _ _ _ h=>h) (.inl ⟨by rfl,fun W hW=>by go_simp⟩) d0 inv ?_
 intro inv
 go_simp
 refine wpAnyLH_take (i:=10) (v := .agg #[.string ⟨#[49]⟩,.string ⟨#[49]⟩]) rfl (by kernel_rfl) (fun _ _ _ h=>h) (.inl ⟨by rfl,fun W hW=>by have z0:=hW.cell c00; have z1:=hW.cell c01; go_simp⟩) d0 inv ?_
 intro inv
 go_simp
 refine wpAnyLH_oneI (i:=11) rfl (by kernel_rfl) inv (fun inv K0 hK0 => ?_)
 go_simp
 refine (hw1.out _ (e9.trans d0)).mono ?_
 rintro e Y1 ⟨rfl,hF1⟩
 have d1:=d0.trans hF1
 refine hK0 _ _ d1 ?_
 clear hK0
 refine wpAnyLH_take (i:=12) (v := .bool true) rfl (by kernel_rfl) (fun _ _ _ h=>h) (.inl ⟨by rfl,fun W hW=>by go_simp⟩) d1 inv ?_
 intro inv
 go_simp
 refine wpAnyLH_take (i:=13) (v := .bool true) rfl (by kernel_rfl) (fun _ _ _ h=>h) (.inl ⟨by rfl,fun W hW=>by go_simp⟩) d1 inv ?_
 intro inv
 go_simp
 refine wpAnyLH_take (i:=14) (v := .bool true) rfl (by kernel_rfl) (fun _ _ _ h=>h) (.inl ⟨by rfl,fun W hW=>by go_simp⟩) d1 inv ?_
 intro inv
 go_simp
 refine wpAnyLH_take (i:=15) (v:=slv g1 3 3) rfl (by kernel_rfl) (fun _ _ _ h=>h) (.inl ⟨by rfl,fun W hW=>by go_simp⟩) d1 inv ?_
 intro inv
 go_simp
 refine wpAnyLH_take (i:=16) (v := .pointer (some ⟨g1,2,none⟩)) rfl (by kernel_rfl) (fun _ _ _ h=>h) (.inl ⟨by rfl,fun W hW=>by go_simp⟩) d1 inv ?_
 intro inv
 go_simp
 refine wpAnyLH_take (i:=17) (v := .agg #[.string ⟨#[45,49]⟩,.string ⟨#[49]⟩]) rfl (by kernel_rfl) (fun _ _ _ h=>h) (.inl ⟨by rfl,fun W hW=>by have z0:=hW.cell c10; have z1:=hW.cell c11; go_simp⟩) d1 inv ?_
 intro inv
 go_simp
 refine wpAnyLH_oneI (i:=18) rfl (by kernel_rfl) inv (fun inv K0 hK0 => ?_)
 go_simp
 refine (hwm.out _ (e9.trans d1)).mono ?_
 rintro e Y2 ⟨rfl,hF2⟩
 have d2:=d1.trans hF2
 refine hK0 _ _ d2 ?_
 clear hK0
 refine wpAnyLH_take (i:=19) (v := .bool true) rfl (by kernel_rfl) (fun _ _ _ h=>h) (.inl ⟨by rfl,fun W hW=>by go_simp⟩) d2 inv ?_
 intro inv
 go_simp
 refine wpAnyLH_take (i:=20) (v := .bool true) rfl (by kernel_rfl) (fun _ _ _ h=>h) (.inl ⟨by rfl,fun W hW=>by go_simp⟩) d2 inv ?_
 intro inv
 go_simp
 refine wpAnyLH_take (i:=21) (v := .bool true) rfl (by kernel_rfl) (fun _ _ _ h=>h) (.inl ⟨by rfl,fun W hW=>by go_simp⟩) d2 inv ?_
 intro inv
 go_simp
 refine wpAnyLH_take (i:=22) (v:=slv g1 3 3) rfl (by kernel_rfl) (fun _ _ _ h=>h) (.inl ⟨by rfl,fun W hW=>by go_simp⟩) d2 inv ?_
 intro inv
 go_simp
 refine wpAnyLH_take (i:=23) (v := .pointer (some ⟨g1,4,none⟩)) rfl (by kernel_rfl) (fun _ _ _ h=>h) (.inl ⟨by rfl,fun W hW=>by go_simp⟩) d2 inv ?_
 intro inv
 go_simp
 refine wpAnyLH_take (i:=24) (v := .agg #[.string ⟨#[49]⟩,.string ⟨#[52]⟩]) rfl (by kernel_rfl) (fun _ _ _ h=>h) (.inl ⟨by rfl,fun W hW=>by have z0:=hW.cell c20; have z1:=hW.cell c21; go_simp⟩) d2 inv ?_
 intro inv
 go_simp
 refine wpAnyLH_oneI (i:=25) rfl (by kernel_rfl) inv (fun inv K0 hK0 => ?_)
 go_simp
 refine (hp.out _ (e9.trans d2)).mono ?_
 rintro e Y3 ⟨rfl,hF3⟩
 have d3:=d2.trans hF3
 refine hK0 _ _ d3 ?_
 clear hK0
 refine wpAnyLH_take (i:=26) (v := .bool true) rfl (by kernel_rfl) (fun _ _ _ h=>h) (.inl ⟨by rfl,fun W hW=>by go_simp⟩) d3 inv ?_
 intro inv
 go_simp
 refine wpAnyLH_take (i:=27) (v := .bool true) rfl (by kernel_rfl) (fun _ _ _ h=>h) (.inl ⟨by rfl,fun W hW=>by go_simp⟩) d3 inv ?_
 intro inv
 go_simp
 refine wpAnyLH_take (i:=28) (v := .bool true) rfl (by kernel_rfl) (fun _ _ _ h=>h) (.inl ⟨by rfl,fun W hW=>by go_simp⟩) d3 inv ?_
 intro inv
 go_simp
 refine wpAnyLH_take (i:=29) (v := .int .i64 0) rfl (by kernel_rfl) (fun _ _ _ h=>h) (.inl ⟨by rfl,fun W hW=>by go_simp⟩) d3 inv ?_
 intro inv
 go_simp
 refine wpAnyLH_take (i:=30) (v := .bool true) rfl (by kernel_rfl) (fun _ _ _ h=>h) (.inl ⟨by rfl,fun W hW=>by go_simp⟩) d3 inv ?_
 intro inv
 go_simp
 refine wpAnyLH_take (i:=31) (v := .bool true) rfl (by kernel_rfl) (fun _ _ _ h=>h) (.inl ⟨by rfl,fun W hW=>by go_simp⟩) d3 inv ?_
 intro inv
 go_simp
 refine wpAnyLH_take (i:=32) (v := .bool true) rfl (by kernel_rfl) (fun _ _ _ h=>h) (.inl ⟨by rfl,fun W hW=>by go_simp⟩) d3 inv ?_
 intro inv
 go_simp
 refine wpAnyLH_take (i:=33) (v:=slv g2 3 3) rfl (by kernel_rfl) (fun _ _ _ h=>h) (.inl ⟨by rfl,fun W hW=>by go_simp⟩) d3 inv ?_
 intro inv
 go_simp
 refine wpAnyLH_take (i:=34) (v := .int .i64 3) rfl (by kernel_rfl) (fun _ _ _ h=>h) (.inl ⟨by rfl,fun W hW=>by go_simp⟩) d3 inv ?_
 intro inv
 go_simp
 refine wpAnyLH_take (i:=35) (v := .bool true) rfl (by kernel_rfl) (fun _ _ _ h=>h) (.inl ⟨by rfl,fun W hW=>by go_simp⟩) d3 inv ?_
 intro inv
 go_simp
 refine wpAnyLH_take (i:=36) (v := .bool true) rfl (by kernel_rfl) (fun _ _ _ h=>h) (.inl ⟨by rfl,fun W hW=>by go_simp⟩) d3 inv ?_
 intro inv
 go_simp
 refine wpAnyLH_take (i:=37) (v := .bool true) rfl (by kernel_rfl) (fun _ _ _ h=>h) (.inl ⟨by rfl,fun W hW=>by go_simp⟩) d3 inv ?_
 intro inv
 go_simp
 refine wpAnyLH_take (i:=38) (v:=slv g2 3 3) rfl (by kernel_rfl) (fun _ _ _ h=>h) (.inl ⟨by rfl,fun W hW=>by go_simp⟩) d3 inv ?_
 intro inv
 go_simp
 refine wpAnyLH_take (i:=39) (v := .pointer (some ⟨g2,0,none⟩)) rfl (by kernel_rfl) (fun _ _ _ h=>h) (.inl ⟨by rfl,fun W hW=>by go_simp⟩) d3 inv ?_
 intro inv
 go_simp
 refine wpAnyLH_take (i:=40) (v := .agg #[.string ⟨#[48]⟩,.string ⟨#[49]⟩]) rfl (by kernel_rfl) (fun _ _ _ h=>h) (.inl ⟨by rfl,fun W hW=>by have z0:=hW.cell d00; have z1:=hW.cell d01; go_simp⟩) d3 inv ?_
 intro inv
 go_simp
 refine wpAnyLH_oneI (i:=41) rfl (by kernel_rfl) inv (fun inv K0 hK0 => ?_)
 go_simp
 refine (hw0.out _ (e9.trans d3)).mono ?_
 rintro e Y4 ⟨rfl,hF4⟩
 have d4:=d3.trans hF4
 refine hK0 _ _ d4 ?_
 clear hK0
 refine wpAnyLH_take (i:=42) (v := .bool true) rfl (by kernel_rfl) (fun _ _ _ h=>h) (.inl ⟨by rfl,fun W hW=>by go_simp⟩) d4 inv ?_
 intro inv
 go_simp
 refine wpAnyLH_take (i:=43) (v := .bool true) rfl (by kernel_rfl) (fun _ _ _ h=>h) (.inl ⟨by rfl,fun W hW=>by go_simp⟩) d4 inv ?_
 intro inv
 go_simp
 refine wpAnyLH_take (i:=44) (v := .bool true) rfl (by kernel_rfl) (fun _ _ _ h=>h) (.inl ⟨by rfl,fun W hW=>by go_simp⟩) d4 inv ?_
 intro inv
 go_simp
 refine wpAnyLH_take (i:=45) (v:=slv g2 3 3) rfl (by kernel_rfl) (fun _ _ _ h=>h) (.inl ⟨by rfl,fun W hW=>by go_simp⟩) d4 inv ?_
 intro inv
 go_simp
 refine wpAnyLH_take (i:=46) (v := .pointer (some ⟨g2,4,none⟩)) rfl (by kernel_rfl) (fun _ _ _ h=>h) (.inl ⟨by rfl,fun W hW=>by go_simp⟩) d4 inv ?_
 intro inv
 go_simp
 refine wpAnyLH_take (i:=47) (v := .agg #[.string ⟨#[48]⟩,.string ⟨#[49]⟩]) rfl (by kernel_rfl) (fun _ _ _ h=>h) (.inl ⟨by rfl,fun W hW=>by have z0:=hW.cell d20; have z1:=hW.cell d21; go_simp⟩) d4 inv ?_
 intro inv
 go_simp
 refine wpAnyLH_oneI (i:=48) rfl (by kernel_rfl) inv (fun inv K0 hK0 => ?_)
 go_simp
 refine (hw0.out _ (e9.trans d4)).mono ?_
 rintro e Y5 ⟨rfl,hF5⟩
 have d5:=d4.trans hF5
 refine hK0 _ _ d5 ?_
 clear hK0
 refine wpAnyLH_take (i:=49) (v := .bool true) rfl (by kernel_rfl) (fun _ _ _ h=>h) (.inl ⟨by rfl,fun W hW=>by go_simp⟩) d5 inv ?_
 intro inv
 go_simp
 refine wpAnyLH_take (i:=50) (v := .bool true) rfl (by kernel_rfl) (fun _ _ _ h=>h) (.inl ⟨by rfl,fun W hW=>by go_simp⟩) d5 inv ?_
 intro inv
 go_simp
 refine wpAnyLH_take (i:=51) (v := .bool true) rfl (by kernel_rfl) (fun _ _ _ h=>h) (.inl ⟨by rfl,fun W hW=>by go_simp⟩) d5 inv ?_
 intro inv
 go_simp
 refine wpAnyLH_take (i:=52) (v := .bool true) rfl (by kernel_rfl) (fun _ _ _ h=>h) (.inl ⟨by rfl,fun W hW=>by go_simp⟩) d5 inv ?_
 intro inv
 go_simp
 refine wpAnyLH_take (i:=53) (v := .bool true) rfl (by kernel_rfl) (fun _ _ _ h=>h) (.inl ⟨by rfl,fun W hW=>by go_simp⟩) d5 inv ?_
 intro inv
 go_simp
 refine wpAnyLH_take (i:=54) (v := .bool true) rfl (by kernel_rfl) (fun _ _ _ h=>h) (.inl ⟨by rfl,fun W hW=>by go_simp⟩) d5 inv ?_
 intro inv
 go_simp
 refine wpAnyLH_take (i:=55) (v := .int .i64 0) rfl (by kernel_rfl) (fun _ _ _ h=>h) (.inl ⟨by rfl,fun W hW=>by go_simp⟩) d5 inv ?_
 intro inv
 go_simp
 refine wpAnyLH_take (i:=56) (v := .bool true) rfl (by kernel_rfl) (fun _ _ _ h=>h) (.inl ⟨by rfl,fun W hW=>by go_simp⟩) d5 inv ?_
 intro inv
 go_simp
 refine wpAnyLH_take (i:=57) (v := .bool true) rfl (by kernel_rfl) (fun _ _ _ h=>h) (.inl ⟨by rfl,fun W hW=>by go_simp⟩) d5 inv ?_
 intro inv
 go_simp
 refine wpAnyLH_take (i:=58) (v := .bool true) rfl (by kernel_rfl) (fun _ _ _ h=>h) (.inl ⟨by rfl,fun W hW=>by go_simp⟩) d5 inv ?_
 intro inv
 go_simp
 refine wpAnyLH_take (i:=59) (v := .string ⟨#[50,44,32,50,32,53,94,40,49,47,52,41]⟩) rfl (by kernel_rfl) (fun _ _ _ h=>h) (.inl ⟨by rfl,fun W hW=>by go_simp⟩) d5 inv ?_
 intro inv
 go_simp
 refine wpAnyLH_take (i:=60) (v := .bool true) rfl (by kernel_rfl) (fun _ _ _ h=>h) (.inl ⟨by rfl,fun W hW=>by go_simp⟩) d5 inv ?_
 intro inv
 go_simp
 refine wpAnyLH_take (i:=61) (v := .bool true) rfl (by kernel_rfl) (fun _ _ _ h=>h) (.inl ⟨by rfl,fun W hW=>by go_simp⟩) d5 inv ?_
 intro inv
 go_simp
 refine wpAnyLH_take (i:=62) (v := .bool true) rfl (by kernel_rfl) (fun _ _ _ h=>h) (.inl ⟨by rfl,fun W hW=>by go_simp⟩) d5 inv ?_
 intro inv
 go_simp
 refine wpAnyLH_take (i:=63) (v := .int .i64 0) rfl (by kernel_rfl) (fun _ _ _ h=>h) (.inl ⟨by rfl,fun W hW=>by go_simp⟩) d5 inv ?_
 intro inv
 go_simp
 refine wpAnyLH_take (i:=64) (v := .bool true) rfl (by kernel_rfl) (fun _ _ _ h=>h) (.inl ⟨by rfl,fun W hW=>by go_simp⟩) d5 inv ?_
 intro inv
 go_simp
 refine wpAnyLH_take (i:=65) (v := .bool true) rfl (by kernel_rfl) (fun _ _ _ h=>h) (.inl ⟨by rfl,fun W hW=>by go_simp⟩) d5 inv ?_
 intro inv
 go_simp
 refine wpAnyLH_end (by kernel_rfl) ?_
 have e9:=e9.trans d5
 clear inv
 go_wp2_with fail
 go_ret
 exact ⟨rfl,e9⟩
def shfG (G:List (List Rat)) (q:List Rat) (at':Int) (n:Nat):List (List Rat):=(List.range G.length).map fun i=>cmbQ [G.getD i [],q] [1,if (i:Int)=at' then 1 else 0] n
@[simp] theorem shfG_length (G:List (List Rat)) (q:List Rat) (t:Int) (n:Nat):(shfG G q t n).length=G.length:=by simp [shfG]
def bldG (G G':List (List Rat)) (k:Rat) (n:Nat):List (List Rat):=(List.range G.length).map fun i=>cmbQ [G.getD i [],G'.getD i []] [1-k,k] n
@[simp] theorem bldG_length (G G':List (List Rat)) (k:Rat) (n:Nat):(bldG G G' k n).length=G.length:=by simp [bldG]
theorem blankZ_any {w:World}:Calls Tryz.prog 38 #[tuZ] w fun e w'=>e = .returned (.bool true)∧Ext w w':=by
 have hX:=(Ext.refl w).alloc (.cells #[.slice none 0 0,.slice none 0 0,.slice none 0 0,.slice none 0 0] 67)
 go_enter Tryz.func38,Tryz.ntmps38
 go_wp2_with fail
 go_ret
 exact ⟨rfl,hX⟩
theorem md_yes {w:World} {P:List Int} {C M:Mx} {G:List (List Rat)} {e:Ending} {w':World} (h:MdPost w P C M G e w') (hG : ∀ l∈G,szE l=0):(∃ t,e = .returned (.tuple #[t,.int .i64 0])∧TuR w' t P C M G)∧Ext w w':=by
 obtain ⟨h1,(⟨_,h2⟩ | ⟨⟨l,hl,h3⟩,_⟩)⟩:=h
 ·exact ⟨h2,h1⟩
 ·exact absurd (hG l hl) h3
theorem SzR.slice {w:World} {v:Value} {l:List Rat} (h:SzR w v l) : ∃ a c,v = .slice a l.length c:=by
 obtain ⟨a,b,g0,c,e,_⟩:=h
 exact ⟨a,c,e⟩
end Go.Proofs.YtjnpakablgommaaGreatDoor
