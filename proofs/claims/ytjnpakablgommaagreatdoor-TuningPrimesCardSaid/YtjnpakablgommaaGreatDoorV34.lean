/- Part 34 of the proof of the claim: contracts of the functions that it reaches, and plain laws; no condition. -/
import Derived.Test.YtjnpakablgommaaGreatDoorV30
import Derived.BigQuiet
import Derived.Test.YtjnpakablgommaaGreatDoorV28
import Derived.Test.YtjnpakablgommaaGreatDoorV15
import Derived.Test.YtjnpakablgommaaGreatDoorV31
import Derived.Test.YtjnpakablgommaaGreatDoorV33
import Derived.Test.YtjnpakablgommaaGreatDoorV09
import Derived.Test.YtjnpakablgommaaGreatDoorV29
set_option maxRecDepth 100000
namespace Go.Proofs.YtjnpakablgommaaGreatDoor
open Go.RowKit Go.Sort
set_option maxHeartbeats 4000000 in
theorem eqQ_any {w:World} {va vb:Value} {la lb:List Rat} (ha:SzR w va la) (hb:SzR w vb lb) (hl:la.length≤1000000) :
  Calls Tryz.prog 91 #[va,vb] w fun e w'=>e = .returned (.bool (decide (la=lb)))∧Ext w w':=by
 obtain ⟨sa,ga,oa,ca,rfl,hca,haa,hra⟩:=ha
 obtain ⟨sb,gb,ob,cb,rfl,hcb,hbb,hrb⟩:=hb
 have Haa:=Lib.hid haa
 have Hbb:=Lib.hid hbb
 have Hra:=Lib.hid hra
 have Hrb:=Lib.hid hrb
 have Hno:=Lib.hid (fun (h:la≠lb)=>decide_eq_false h)
 have Hyes:=Lib.hid (fun (hl:la.length=lb.length) (h : ∀ i (h:i<la.length) (h':i<lb.length),la[i]=lb[i])=>decide_eq_true (show la=lb from List.ext_getElem hl h))
 obtain ⟨n,hn⟩ : ∃ n,n=la.length:=⟨_,rfl⟩
 obtain ⟨m,hm⟩ : ∃ m,m=lb.length:=⟨_,rfl⟩
 have Hn:=Lib.hid hn
 have Hm:=Lib.hid hm
 rw [← hn] at hl ⊢
 rw [← hm]
 generalize decide (la=lb)=q at *
 clear haa hbb hra hrb hn hm hca hcb
 by_cases hnm:n=m
 ·subst hnm
  go_enter Tryz.func91,Tryz.ntmps91
  go_wp2_with fail
  go_loopw [13] (fun iv wr => ∃ i:Nat,i≤n∧iv = .int .i64 i∧Hid (∀ t (h:t<la.length) (h':t<lb.length),t<i→la[t]=lb[t])∧Ext w wr) (fun iv _=>n-(intOf iv).toNat)
  case atStart=>exact ⟨0,by omega,by go_num,Lib.hid (fun t _ _ h=>by omega),Ext.refl _⟩
  case round =>
   obtain ⟨i,hi,rfl,HA,hE⟩:=hrel
   generalize wr=X at *
   by_cases hlt:i<n
   ·have hii:(i:Int)<(n:Int):=by omega
    have hia:i<la.length:=by rw [← Hn.out]; exact hlt
    have hib:i<lb.length:=by rw [← Hm.out]; exact hlt
    obtain rfl:=Haa.out (by omega)
    obtain rfl:=Hbb.out (by omega)
    obtain ⟨a0,a1⟩:=Hra.out i hia
    obtain ⟨b0,b1⟩:=Hrb.out i hib
    replace a0:=hE.cell a0
    replace a1:=hE.cell a1
    replace b0:=hE.cell b0
    replace b1:=hE.cell b1
    have Hq:=Lib.hid (fun (h:la[i]≠lb[i])=>Hno.out (fun h2=>h (by simp only [h2])))
    have HA':=Lib.hid (fun (h:la[i]=lb[i]) t (ht:t<la.length) (ht':t<lb.length) (hti:t<i+1)=>show la[t]=lb[t] by
     by_cases e:t=i
     ·subst e; exact h
     ·exact HA.out t ht ht' (by omega))
    obtain ⟨x,hx⟩ : ∃ x,x=la[i]:=⟨_,rfl⟩
    obtain ⟨y,hy⟩ : ∃ y,y=lb[i]:=⟨_,rfl⟩
    rw [← hx] at a0 a1 Hq HA'
    rw [← hy] at b0 b1 Hq HA'
    clear hx hy HA hlt hia hib
    have hqd : ∀ u v:Int,(Lib.itoa u==Lib.itoa v)=decide (u=v):=fun u v=>by
     by_cases h:u=v
     ·subst h; simp
     ·rw [decide_eq_false h,beq_eq_false_iff_ne]; exact fun hc=>h (itoa_inj hc)
    have k1:=hqd x.num y.num
    have k2:=hqd x.den y.den
    by_cases hxy:x=y
    ·subst hxy
     have HA:=Lib.hid (HA'.out rfl)
     clear HA' Hq k1 k2 hqd
     go_wp2_with fail
     go_quiet (fail)
     have hE:=hE.drewN nq
     go_wp2_with fail
     go_roundw
     case rel=>exact ⟨i+1,by omega,by go_num,HA,hE⟩
     case measure=>simp [intOf] <;> omega
    ·have Hq0:=Lib.hid (Hq.out hxy)
     have hd:x.num≠y.num∨(x.num=y.num∧(x.den:Int)≠(y.den:Int)):=by
      by_cases h1:x.num=y.num
      ·exact .inr ⟨h1,fun h2=>hxy (Rat.ext h1 (by omega))⟩
      ·exact .inl h1
     clear HA' Hq hxy hqd
     obtain ⟨la',hla⟩ : ∃ l,l=Lib.itoa x.num:=⟨_,rfl⟩
     obtain ⟨lb',hlb⟩ : ∃ l,l=Lib.itoa y.num:=⟨_,rfl⟩
     obtain ⟨da',hda⟩ : ∃ l,l=Lib.itoa x.den:=⟨_,rfl⟩
     obtain ⟨db',hdb⟩ : ∃ l,l=Lib.itoa y.den:=⟨_,rfl⟩
     unfold I S at a0 a1 b0 b1
     rw [← hla, ← hlb] at k1
     rw [← hda, ← hdb] at k2
     rw [← hla] at a0
     rw [← hda] at a1
     rw [← hlb] at b0
     rw [← hdb] at b1
     rcases hd with hd | ⟨hd,hd2⟩
     ·rw [decide_eq_false hd] at k1
      have k3:(la' != lb')=true:=by simp [bne,k1]
      clear hd k2 hla hlb hda hdb
      go_wp2_with fail
      go_quiet (fail)
      have hE:=hE.drewN nq
      go_wp2_with fail
      go_ret
      exact ⟨ret_val (congrArg Value.bool Hq0.out.symm),hE⟩
     ·rw [decide_eq_false hd2] at k2
      have k3:(da' != db')=true:=by simp [bne,k2]
      rw [decide_eq_true hd] at k1
      obtain rfl:la'=lb':=by simpa using k1
      clear hd k1 hd2 hla hlb hda hdb
      go_wp2_with fail
      go_quiet (fail)
      have hE:=hE.drewN nq
      go_wp2_with fail
      go_ret
      exact ⟨ret_val (congrArg Value.bool Hq0.out.symm),hE⟩
   ·obtain rfl:i=n:=by omega
    have hii : ¬ (i:Int)<(i:Int):=by omega
    have Hq:=Lib.hid (Hyes.out (by rw [← Hn.out, ← Hm.out]) (fun t h h'=>HA.out t h h' (by rw [Hn.out]; exact h)))
    clear hlt HA
    go_wp2_with fail
    go_ret
    exact ⟨ret_val (congrArg Value.bool Hq.out.symm),hE⟩
 ·have h1 : ¬ ((n:Int)=(m:Int)):=by omega
  have h2:((n:Int)==(m:Int))=false:=beq_eq_false_iff_ne.2 h1
  have h3:((n:Int) != (m:Int))=true:=by simp [bne,h2]
  have Hq:=Lib.hid (Hno.out (fun h=>hnm (by rw [Hn.out,Hm.out,h])))
  clear hnm
  go_enter Tryz.func91,Tryz.ntmps91
  go_wp2_with fail
  go_ret
  exact ⟨ret_val (congrArg Value.bool Hq.out.symm),Ext.refl _⟩
set_option maxHeartbeats 1000000 in
theorem rowZero_ok {w:World} {n:Nat} (hn:n≤64) :
  Calls Tryz.prog 145 #[.int .i64 n] w fun e w' => ∃ g,e = .returned (.tuple #[slv g n n,.int .i64 0])∧OwnV 3 w.heap.size w' g n (is (List.replicate n 0))∧Ext w w':=by
 obtain ⟨i0,hi,hz0,hz1,hz2⟩:=info_parts Tryz.infoInt
 have h1 : ¬ (n:Int)<0:=by omega
 have h2 : ¬ (n:Int)>64:=by omega
 have h3 : ¬ (64:Int)<(n:Int):=by omega
 go_enter Tryz.func145,Tryz.ntmps145
 go_wp2_with (at_make; refine wpList_make_full _ rfl _ _ 30 rfl w.heap.size 3 i0 (.int .i64 0) 1 Tryz.underlying30 hi hz0 hz1 .i64 .i64 _ _ n rfl rfl (by omega) (by omega) (by rw [hz2]; omega) (by unfold maxLen; omega) (Nat.le_refl _) ?_; intro w1 hown1 hgrow1)
 have hE1:=ext_grown hgrow1
 have hb0:OwnV 3 w.heap.size w1 w.heap.size n (is (List.replicate n 0)):=row_ownV (zero_row hown1) (by simp)
 have Hb:=Lib.hid hb0
 clear hb0 hown1 hgrow1
 go_wp2_with fail
 go_ret2
 exact ⟨_,rfl,Hb.out,hE1⟩
set_option maxHeartbeats 1000000 in
theorem rowUnit_ok {w:World} {n i:Nat} (hn:n≤64) (hi:i<n) :
  Calls Tryz.prog 90 #[.int .i64 n,.int .i64 i] w fun e w' => ∃ g,e = .returned (.tuple #[slv g n n,.int .i64 0])∧OwnV 3 w.heap.size w' g n (is (unitL n i))∧Ext w w':=by
 have hz:=Lib.hid (rowZero_ok (w:=w) hn)
 have h1 : ¬ (i:Int)<0:=by omega
 have h2 : ¬ (i:Int)≥(n:Int):=by omega
 have h3 : ¬ (n:Int)≤(i:Int):=by omega
 have h4:(i:Int)<(n:Int):=by omega
 go_enter Tryz.func90,Tryz.ntmps90
 go_wp2_with fail
 refine hz.out.mono ?_
 rintro e w1 ⟨g,rfl,hO,hE1⟩
 have hcl:=hO.cell (j:=i) (by simpa using hi)
 have hfz:=hO.frozen i
 obtain ⟨hO2,hG⟩:=hO.set i (.int .i64 1)
 rw [← is_set] at hO2
 have hE2:=ext_trans_grown hE1 hG hO.lt.1
 have Hq:=Lib.hid (And.intro hO2 hE2)
 clear hz hO hO2 hE2 hG
 go_wp2_with fail
 go_ret2
 exact ⟨g,rfl,Hq.out.1,Hq.out.2⟩
theorem sumZ_unit {n:Nat} {v:List Int} (hn:0<n) : ∀ k,k≤n→sumZ (fun i=>(unitL n 0).getD i 0*v.getD i 0) k=if k=0 then 0 else v.getD 0 0
 | 0,_=>rfl
 | k+1,h=>by
  rw [sumZ,sumZ_unit hn k (by omega),unitL_getD hn]
  by_cases h0:k=0
  ·subst h0; simp
  ·rw [if_neg h0,if_neg h0,if_neg (by omega)]; simp
theorem tmp_unit {n:Nat} {M:Mx} (hn:0<n) (hM:SmK M):smallB (tmpL M (unitL n 0))=true:=by
 rw [smallB_iff]
 intro z hz
 obtain ⟨v,hv,rfl⟩:=List.mem_map.1 hz
 have h:=sumZ_unit (v:=v) hn n (Nat.le_refl _)
 rw [if_neg (by omega)] at h
 have e:tmpE (unitL n 0) v=v.getD 0 0:=by
  unfold tmpE; rw [unitL_length]; exact h
 rw [e]
 exact getD_bd9 (hM v hv) 0
theorem unit_mem {n i:Nat} {z:Int} (h:z∈unitL n i):z=0∨z=1:=by
 unfold unitL at h
 rcases List.mem_or_eq_of_mem_set h with h | h
 ·exact .inl (List.mem_replicate.1 h).2
 ·exact .inr h
theorem mz_unit (n i:Nat):mzE n (unitL n i)=0:=by
 unfold mzE
 rw [if_pos (by simp),if_pos]
 unfold mzS
 rw [List.all_eq_true]
 intro z hz
 rcases unit_mem hz with rfl | rfl <;> decide
theorem tu_unit {n:Nat} {M:Mx} (hn:0<n) (hM:SmK M):tuE n M (unitL n 0)=0:=by
 unfold tuE
 rw [if_pos (mz_unit n 0),if_pos (tmp_unit hn hM)]
set_option maxHeartbeats 4000000 in
theorem tuPure_any {w:World} {P:List Int} {C M:Mx} {G:List (List Rat)} {sp:Option Addr} {cp:Nat} {sc:Option Addr} {lc cc:Nat} {sm:Option Addr} {lm cm:Nat} {sg:Option Addr} {lg cg:Nat} (h:TuV w P C M G sp cp sc lc cc sm lm cm sg lg cg) (hL:Laid w) :
  Calls Tryz.prog 32 #[tuS P sp cp sc lc cc sm lm cm sg lg cg] w fun e w'=>e = .returned (.tuple #[.bool (decide (tuL P.length M G (unitL P.length 0)=nbL (unitL P.length 0))),.int .i64 0])∧Ext w w':=by
 have hck:=Lib.hid (fun W (hW:Ext w W)=>tuCheck_any (h.ext hW) (hL.ext hW))
 have hp4:=h.tm.ok.p4
 have hp0:=h.tm.ok.p0
 have h0:=tu_unit hp0 h.tm.ok.sM
 have hun:=Lib.hid (fun W=>rowUnit_ok (w:=W) (n:=P.length) (i:=0) (by omega) hp0)
 have hte:=Lib.hid (fun W g (hW:Ext w W) (hx:RowR W (slv g P.length P.length) (unitL P.length 0))=>tempered_any (h.ext hW) hx (hL.ext hW))
 have hnm:=Lib.hid (fun W g (hW:Ext w W) (hx:RowR W (slv g P.length P.length) (unitL P.length 0))=>numbers_any hx (by rw [unitL_length]; omega) (fun z hz=>by unfold I64; rcases unit_mem hz with rfl | rfl <;> omega) (hL.ext hW))
 have heq:=Lib.hid (fun W va vb (ha:SzR W va (tuL P.length M G (unitL P.length 0))) (hb:SzR W vb (nbL (unitL P.length 0)))=>eqQ_any ha hb (by rw [tuL_length]; omega))
 have H0:=Lib.hid h0
 have Hll:=Lib.hid (tuL_length P.length M G (unitL P.length 0))
 have hX:=(Ext.refl w).alloc (.cells #[.slice sp P.length cp,.slice sc lc cc,.slice sm lm cm,.slice sg lg cg] 67)
 have x0:(w.alloc (.cells #[.slice sp P.length cp,.slice sc lc cc,.slice sm lm cm,.slice sg lg cg] 67)).cell? ⟨w.heap.size,0,none⟩=some (.slice sp P.length cp):=by go_simp
 have x1:(w.alloc (.cells #[.slice sp P.length cp,.slice sc lc cc,.slice sm lm cm,.slice sg lg cg] 67)).cell? ⟨w.heap.size,1,none⟩=some (.slice sc lc cc):=by go_simp
 have x2:(w.alloc (.cells #[.slice sp P.length cp,.slice sc lc cc,.slice sm lm cm,.slice sg lg cg] 67)).cell? ⟨w.heap.size,2,none⟩=some (.slice sm lm cm):=by go_simp
 have x3:(w.alloc (.cells #[.slice sp P.length cp,.slice sc lc cc,.slice sm lm cm,.slice sg lg cg] 67)).cell? ⟨w.heap.size,3,none⟩=some (.slice sg lg cg):=by go_simp
 generalize decide (tuL P.length M G (unitL P.length 0)=nbL (unitL P.length 0))=q at *
 clear h h0 hL
 go_enter Tryz.func32,Tryz.ntmps32
 go_wp2_with fail
 refine (hck.out _ hX).mono ?_
 rintro e X0 ⟨rfl,hE0⟩
 have e0:=hX.trans hE0
 replace x0:=hE0.cell x0
 replace x1:=hE0.cell x1
 replace x2:=hE0.cell x2
 replace x3:=hE0.cell x3
 clear hck hX hE0
 go_wp2_with fail
 refine (hun.out _).mono ?_
 rintro e X1 ⟨g,rfl,hO,hE1⟩
 have e1:=e0.trans hE1
 replace x0:=hE1.cell x0
 replace x1:=hE1.cell x1
 replace x2:=hE1.cell x2
 replace x3:=hE1.cell x3
 have HR:=Lib.hid (show RowR X1 (slv g P.length P.length) (unitL P.length 0) from ⟨_,g,0,P.length,by rw [unitL_length],by rw [unitL_length]; exact Nat.le_refl _,hO.sl⟩)
 clear hun hE1 hO e0
 go_wp2_with fail
 refine (hte.out _ _ e1 HR.out).mono ?_
 rintro e X2 ⟨hE2,(⟨hy,rfl⟩ | ⟨_,g2,rfl,hg2,hO2⟩)⟩
 ·exact absurd H0.out hy
 have e2:=e1.trans hE2
 have HR2:=Lib.hid (HR.out.ext hE2)
 have HS2:=Lib.hid hO2
 clear hte hO2 hE2 x0 x1 x2 x3 hg2
 go_wp2_with fail
 refine (hnm.out _ _ e2 HR2.out).mono ?_
 rintro e X3 ⟨⟨u,rfl,hu⟩,hE3⟩
 have e3:=e2.trans hE3
 have hq:=Lib.hid (heq.out X3 (slv g2 P.length P.length) u (by have:=(HS2.out.ext hE3).val.read; rwa [Hll.out] at this) hu.read)
 obtain ⟨ua,un,uc,rfl⟩:=hu.slice
 clear hnm heq hu hE3
 go_wp2_with fail
 refine hq.out.mono ?_
 rintro e X4 ⟨rfl,hE4⟩
 go_wp2_with fail
 go_ret2
 exact ⟨rfl,e3.trans hE4⟩
end Go.Proofs.YtjnpakablgommaaGreatDoor
namespace Go.Proofs.YtjnpakablgommaaGreatDoor
open Go.RowKit Go.Sort
open Hnf (V Span)
theorem sumR_mul (q:Rat) (f:Nat→Rat) : ∀ n,sumR (fun i=>q*f i) n=q*sumR f n
 | 0=>by show (0:Rat)=q*0; grind
 | n+1=>by rw [sumR,sumR,sumR_mul q f n]; grind
theorem sumR_nil {f:Nat→Rat} : ∀ n,(∀ i,i<n→f i=0)→sumR f n=0
 | 0,_=>rfl
 | n+1,h=>by rw [sumR,sumR_nil n (fun i hi=>h i (by omega)),h n (by omega)]; grind
theorem sumR_swap (f:Nat→Nat→Rat) (m:Nat) : ∀ n,sumR (fun i=>sumR (fun j=>f i j) m) n=sumR (fun j=>sumR (fun i=>f i j) n) m
 | 0=>(sumR_nil m fun _ _=>rfl).symm
 | n+1=>by
  rw [sumR,sumR_swap f m n]
  exact (sumR_add2 (fun j=>sumR (fun i=>f i j) n) (fun j=>f n j) _ (fun j=>rfl) m).symm
theorem sumR_cast (f:Nat→Int) : ∀ n,((sumZ f n:Int):Rat)=sumR (fun i=>((f i:Int):Rat)) n
 | 0=>rfl
 | n+1=>by rw [sumZ,sumR,Rat.intCast_add,sumR_cast f n]
theorem sumR_one {f:Nat→Rat} {k:Nat} : ∀ n,k<n→(∀ i,i<n→i≠k→f i=0)→sumR f n=f k
 | n+1,hk,h=>by
  rw [sumR]
  by_cases e:k=n
  ·subst e
   rw [sumR_nil k (fun i hi=>h i (by omega) (by omega))]; grind
  ·rw [sumR_one n (by omega) (fun i hi h2=>h i (by omega) h2),h n (by omega) (fun e2=>e e2.symm)]; grind
theorem tmpE_unit {n i:Nat} (hi:i<n) (v:List Int):tmpE (unitL n i) v=v.getD i 0:=by
 unfold tmpE
 rw [unitL_length,sumZ_one (k:=i) hi (fun k _ hk=>by rw [unitL_getD hi,if_neg hk]; simp),unitL_getD hi,if_pos rfl]
 simp
theorem unit_18 (n i:Nat) : ∀ z∈unitL n i,z.natAbs≤18:=fun z hz=>by
 rcases unit_mem hz with rfl | rfl <;> decide
theorem tuE_unit {P:List Int} {C M:Mx} (h:TmOK P C M) (i:Nat):tuE P.length M (unitL P.length i)=0:=tuE_small h (by simp) (unit_18 _ _)
def prZ (n:Nat) (M:Mx) (G:List (List Rat)):List (List Rat):=(List.range n).map fun i=>tuL n M G (unitL n i)
@[simp] theorem prZ_length (n:Nat) (M:Mx) (G:List (List Rat)):(prZ n M G).length=n:=by simp [prZ]
theorem prZ_getD {n:Nat} {M:Mx} {G:List (List Rat)} {i:Nat} (hi:i<n):(prZ n M G).getD i []=tuL n M G (unitL n i):=by
 rw [List.getD_eq_getElem?_getD,List.getElem?_eq_getElem (by simpa using hi)]
 simp [prZ]
theorem tmpL_getD (M:Mx) (x:List Int) {k:Nat} (hk:k<M.length):(tmpL M x).getD k 0=tmpE x (M.getD k []):=by
 unfold tmpL
 rw [List.getD_eq_getElem?_getD,List.getElem?_map,List.getElem?_eq_getElem hk,getD_get hk]; rfl
theorem cmbQ_getD {l:List (List Rat)} {fs:List Rat} {n c:Nat} (hc:c<n):(cmbQ l fs n).getD c 0=sumR (cmbF l fs c) l.length:=by
 rw [List.getD_eq_getElem?_getD,List.getElem?_eq_getElem (by simpa using hc),Option.getD_some,cmbQ_get]
theorem cmbF_nb (l:List (List Rat)) (x:List Int) (c k:Nat):cmbF l (nbL x) c k=(l.getD k []).getD c 0*((x.getD k 0:Int):Rat):=by
 unfold cmbF
 rw [nbL_getD]
theorem cmb_pr {n:Nat} {M:Mx} {G:List (List Rat)} {x:List Int} (hG:G.length=M.length) (hx:x.length=n):cmbQ (prZ n M G) (nbL x) n=tuL n M G x:=by
 refine List.ext_getElem (by simp) fun c h1 h2 => ?_
 have hc:c<n:=by simpa using h1
 rw [cmbQ_get,tuL_get,prZ_length]
 have e1 : ∀ i,i<n→cmbF (prZ n M G) (nbL x) c i=sumR (fun k=>(G.getD k []).getD c 0*(((x.getD i 0*(M.getD k []).getD i 0:Int)):Rat)) G.length:=fun i hi=>by
  rw [cmbF_nb,prZ_getD hi]
  unfold tuL
  rw [cmbQ_getD hc,Rat.mul_comm, ← sumR_mul]
  refine sumR_congr _ fun k hk => ?_
  rw [cmbF_nb,tmpL_getD M _ (by omega),tmpE_unit hi,Rat.intCast_mul]
  grind
 rw [sumR_congr n e1,sumR_swap]
 refine sumR_congr _ fun k hk => ?_
 rw [cmbF_nb,tmpL_getD M _ (by omega),sumR_mul]
 congr 1
 unfold tmpE
 rw [hx,sumR_cast]
def frG (n:Nat) (L:List (List Rat)) (S:Mx):List (List Rat):=S.map fun s=>cmbQ L (nbL s) n
@[simp] theorem frG_length (n:Nat) (L:List (List Rat)) (S:Mx):(frG n L S).length=S.length:=by simp [frG]
theorem from_pr {n:Nat} {C M S:Mx} {G:List (List Rat)} (h:SecOK n C M S) (hG:G.length=M.length) (hcl : ∀ l∈G,l.length=n):frG n (prZ n M G) S=G:=by
 refine List.ext_getElem (by rw [frG_length,h.len,hG]) fun j h1 h2 => ?_
 have hj:j<S.length:=by simpa using h1
 obtain ⟨a,b,_⟩:=h.row j hj
 have e0:(frG n (prZ n M G) S)[j]=cmbQ (prZ n M G) (nbL S[j]) n:=by simp [frG]
 rw [e0,cmb_pr hG a]
 refine List.ext_getElem (by rw [tuL_length,hcl _ (List.getElem_mem h2)]) fun c c1 c2 => ?_
 rw [tuL_get,b,sumR_one (k:=j) _ h2 (fun k hk hkj=>by
  rw [cmbF_nb,unitL_getD (by omega),if_neg hkj]
  show _*(0:Rat)=0
  grind),cmbF_nb,unitL_getD (by omega),if_pos rfl]
 rw [List.getD_eq_getElem?_getD (l:=G),List.getElem?_eq_getElem h2,Option.getD_some,List.getD_eq_getElem?_getD,List.getElem?_eq_getElem c2,Option.getD_some]
 show _*(1:Rat)=_
 grind
end Go.Proofs.YtjnpakablgommaaGreatDoor
namespace Go.Proofs.YtjnpakablgommaaGreatDoor
open Go Go.Sort
theorem countP_step {p p':Nat→Bool} {i:Nat} (hp:p i=true) (hp':p' i=false) (h : ∀ j,j≠i→p' j=p j) : ∀ (l:List Nat),l.Nodup→i∈l→l.countP p'+1=l.countP p
 | [],_,hi=>by cases hi
 | x::l,hn,hi=>by
  rw [List.nodup_cons] at hn
  by_cases e:x=i
  ·subst e
   rw [List.countP_cons_of_neg (by rw [hp']; decide),List.countP_cons_of_pos hp]
   have:l.countP p'=l.countP p:=List.countP_congr (fun j hj=>by rw [h j (fun h2=>hn.1 (h2 ▸ hj))])
   omega
  ·have hi2:i∈l:=by rcases List.mem_cons.1 hi with h2 | h2; exact absurd h2.symm e; exact h2
   have ih:=countP_step hp hp' h l hn.2 hi2
   rw [List.countP_cons,List.countP_cons,h x e]
   omega
def unl (n:Nat) (listed:Array Bool):Nat:=(List.range n).countP fun j => !(listed.getD j true)
theorem unl_set {n i:Nat} {listed:Array Bool} (hin:i<n) (hi:listed.getD i true=false):unl n (listed.setIfInBounds i true)+1=unl n listed:=by
 refine countP_step (i:=i) (by rw [hi]; rfl) ?_ (fun j hj=>by rw [getD_set_ne true (Ne.symm hj)]) _ List.nodup_range (List.mem_range.2 hin)
 have hlt:i<listed.size:=by
  rcases Nat.lt_or_ge i listed.size with h | h
  ·exact h
  ·simp [Array.getElem?_eq_none h] at hi
 simp [hlt]
theorem unl_zero {n:Nat} {listed:Array Bool} (h:unl n listed=0) {j:Nat} (hj:j<n):listed.getD j true=true:=by
 have:=List.countP_eq_zero.1 h j (List.mem_range.2 hj)
 simpa using this
theorem unl_all (n m:Nat) (h:n≤m):unl n (Array.replicate m false)=n:=by
 unfold unl
 have:(List.range n).countP (fun j => !((Array.replicate m false).getD j true))=(List.range n).length:=List.countP_eq_length.2 (fun j hj=>by
  have:=List.mem_range.1 hj
  have hlt:j<m:=by omega
  simp [hlt])
 rw [this,List.length_range]
structure Frm (D:Nat→Nat) (n:Nat) (a0 a:Act):Prop where
 size:a.tmps.size=a0.tmps.size
 other : ∀ t,(∀ j,j<n→D j≠t)→a.tmps[t]? = a0.tmps[t]?
 defers:a.defers=a0.defers
theorem Frm.refl (D:Nat→Nat) (n:Nat) (a:Act):Frm D n a a:=⟨rfl,fun _ _=>rfl,rfl⟩
section
variable {P:Program} {ops:Array Oper} {md:Region.Mode} {Q:Exit→Act→World→Prop} {S:World→Prop}
theorem wpAnyLH_inv {n:Nat} {L:Array Bool→Act→World→Prop} {D:Nat→Nat} {G:Nat→Value→World→Prop} {a0:Act}
  (hD : ∀ i j,i<n→j<n→D i=D j→i=j) (hsz : ∀ i,i<n→D i<a0.tmps.size)
  (hdep : ∀ i,i<n → ∀ o,ops[i]? = some o → ∀ e∈o.after,Region.binds md e=true→e.on<i)
  (hs:Region.sinkB md ops n=true) (hc:Region.chainB md ops n=true) (hn:n<ops.size)
  (hG : ∀ j v w w',G j v w→Ext w w'→G j v w')
  (hop : ∀ i,i<n → ∀ o,ops[i]? = some o → ∀ a w,S w→Frm D n a0 a→(∀ e∈o.after,Region.binds md e=true→G e.on (a.eval (.tmp (D e.on))) w)→wpOp P ops Q i (fun a' w'=>S w'∧Ext w w' ∧ ∃ v,a'=a.put (some (D i)) v∧G i v w') a w)
  (hend : ∀ listed a w,HeadInv md ops n listed→(∀ j,j<n→listed.getD j false=true)→S w→Frm D n a0 a→(∀ j,j<n→G j (a.eval (.tmp (D j))) w)→L listed a w) :
  ∀ (f:Nat) (listed:Array Bool) (a:Act) (w:World),unl n listed=f→HeadInv md ops n listed→S w→Frm D n a0 a→(∀ j,j<n→listed.getD j false=true→G j (a.eval (.tmp (D j))) w)→wpAnyLH P md ops Q S n L f listed a w
 | 0,listed,a,w,hf,inv,hS,hF,hGa=>by
  have hall : ∀ j,j<n→listed.getD j false=true:=fun j hj=>by
   have h1:=unl_zero hf hj
   have hlt:j<listed.size:=by rw [inv.size]; omega
   simpa [hlt] using h1
  exact hend listed a w inv hall hS hF (fun j hj=>hGa j hj (hall j hj))
 | f+1,listed,a,w,hf,inv,hS,hF,hGa=>by
  -- the first that has not come up is ready
  have hex : ∃ j,j<n∧listed.getD j true=false ∧ ∀ k,k<j→listed.getD k false=true:=by
   have h0 : ∃ j,j<n∧listed.getD j true=false:=by
    refine Classical.byContradiction fun hno => ?_
    have:unl n listed=0:=List.countP_eq_zero.2 (fun j hj=>by
     have hj:=List.mem_range.1 hj
     cases hq:listed.getD j true with
     | true=>simp
     | false=>exact absurd ⟨j,hj,hq⟩ hno)
    omega
   obtain ⟨j,hj,hq⟩:=h0
   induction j using Nat.strongRecOn with
   | _ j ih =>
    by_cases hk : ∀ k,k<j→listed.getD k false=true
    ·exact ⟨j,hj,hq,hk⟩
    ·have : ∃ k,k<j∧listed.getD k false≠true:=by
      refine Classical.byContradiction fun hno=>hk (fun k hk2=>Classical.byContradiction fun h3=>hno ⟨k,hk2,h3⟩)
     obtain ⟨k,hk1,hk2⟩:=this
     refine ih k hk1 (by omega) (getD_in (by rw [inv.size]; omega) (by simpa using hk2))
  obtain ⟨j0,hj0,hq0,hmin⟩:=hex
  refine ⟨fun hr => ?_,fun i hi => ?_⟩
  ·have hj0s:j0<ops.size:=by omega
   have:j0∈Region.ready md ops listed:=mem_ready.2 ⟨hq0,ops[j0],Array.getElem?_eq_getElem hj0s,fun e he hb=>hmin _ (hdep j0 hj0 _ (Array.getElem?_eq_getElem hj0s) e he hb)⟩
   rw [hr] at this; cases this
  ·have hin:i<n:=by
    rcases Nat.lt_or_ge i n with h | h
    ·exact h
    ·exact absurd hi (tail_waits hs hc hn inv _ j0 rfl hj0 hq0 i h)
   refine ⟨hin,?_⟩
   obtain ⟨hun,o,ho,hall⟩:=mem_ready.1 hi
   have hdeps : ∀ e∈o.after,Region.binds md e=true→G e.on (a.eval (.tmp (D e.on))) w:=fun e he hb=>hGa _ (Nat.lt_trans (hdep i hin o ho e he hb) hin) (hall e he hb)
   refine wpOp_mono ?_ (hop i hin o ho a w hS hF hdeps)
   rintro a' w' ⟨hS',hE,v,rfl,hv⟩
   refine ⟨hS',wpAnyLH_inv hD hsz hdep hs hc hn hG hop hend f _ _ w' (by have:=unl_set hin hun; omega) (inv.set hi hin) hS' ?_ ?_⟩
   ·refine ⟨by simp [Act.put,hF.size],fun t ht => ?_,hF.defers⟩
    have hne:D i≠t:=ht i hin
    rw [← hF.other t ht]
    simp [Act.put,Array.getElem?_setIfInBounds_ne hne]
   ·intro j hj hl
    by_cases hij:i=j
    ·subst hij
     have hlt:D i<a.tmps.size:=by rw [hF.size]; exact hsz i hin
     have:(a.put (some (D i)) v).eval (.tmp (D i))=v:=by simp [Act.eval,Act.put,hlt]
     rw [this]; exact hv
    ·have hne:D i≠D j:=fun h=>hij (hD i j hin hj h)
     have:(a.put (some (D i)) v).eval (.tmp (D j))=a.eval (.tmp (D j)):=by simp [Act.eval,Act.put,Array.getElem?_setIfInBounds_ne hne]
     rw [this]
     rw [getD_set_ne false hij] at hl
     exact hG _ _ _ _ (hGa j hj hl) hE
theorem listed_eq {n:Nat} {listed:Array Bool} (inv:HeadInv md ops n listed) (hall : ∀ j,j<n→listed.getD j false=true):listed=((List.range ops.size).map fun j=>decide (j<n)).toArray:=by
 apply Array.ext
 ·simp [inv.size]
 ·intro j h1 h2
  have hj:j<ops.size:=by rw [← inv.size]; exact h1
  simp only [List.getElem_toArray,List.getElem_map,List.getElem_range]
  by_cases hjn:j<n
  ·have:=hall j hjn
   rw [decide_eq_true hjn]
   simpa [h1] using this
  ·rw [decide_eq_false hjn]
   have:=inv.tail j (by omega) hj
   simpa [h1] using this
end
end Go.Proofs.YtjnpakablgommaaGreatDoor
namespace Go.Proofs.YtjnpakablgommaaGreatDoor
open Go.RowKit Go.Sort
def dgB (b:Nat):Nat→Nat→List Nat
 | 0,_=>[]
 | n+1,k=>dgB b n (k/b)++[k%b]
@[simp] theorem dgB_length (b:Nat) : ∀ n k,(dgB b n k).length=n
 | 0,_=>rfl
 | n+1,k=>by simp [dgB,dgB_length b n]
def bxR (n m k:Nat):List Int:=(dgB (2*m+1) n k).map fun (d:Nat)=>(d:Int)-m
@[simp] theorem bxR_length (n m k:Nat):(bxR n m k).length=n:=by simp [bxR]
def hgt (P:List Int) (y:List Int):Nat→Nat
 | 0=>1
 | k+1=>hgt P y k*(P.getD k 0).toNat^(y.getD k 0).natAbs
end Go.Proofs.YtjnpakablgommaaGreatDoor
namespace Go.Proofs.YtjnpakablgommaaGreatDoor
open Go.RowKit Go.Sort
open Hnf (V Span)
def mtC:Mx:=[[4,-4,1]]
def mtM:Mx:=[[1,0,-4],[0,1,4]]
def mtP:List Int:=[2,3,5]
theorem mtM_isH:IsH 3 [0,1] mtM where
 rect:=by unfold Rect; decide
 len:=rfl
 lt:=by decide
 inc:=fun i k h1 h2=>by
  have:k<2:=h2
  obtain rfl:k=1:=by omega
  obtain rfl:i=0:=by omega
  decide
 left:=fun i hi j hj=>by
  have:i<2:=hi
  rcases (show i=0∨i=1 by omega) with rfl | rfl
  ·have:j<0:=hj
   omega
  ·have:j<1:=hj
   obtain rfl:j=0:=by omega
   decide
 pos:=by decide
 red:=fun i k h1 h2=>by
  have:k<2:=h2
  obtain rfl:k=1:=by omega
  obtain rfl:i=0:=by omega
  decide
theorem mtC_isH:IsH 3 [0] mtC where
 rect:=by unfold Rect; decide
 len:=rfl
 lt:=by decide
 inc:=fun i k h1 h2=>by
  have:k<1:=h2
  omega
 left:=fun i hi j hj=>by
  have:i<1:=hi
  obtain rfl:i=0:=by omega
  have:j<0:=hj
  omega
 pos:=by decide
 red:=fun i k h1 h2=>by
  have:k<1:=h2
  omega
theorem vr3 (a b c:Int) (y:V):dotV 3 (vr [a,b,c]) y=a*y 0+b*y 1+c*y 2:=by
 simp [dotV,sumZ,vr]
theorem vr3_at (a b c:Int) (j:Nat) (h:3≤j):vr [a,b,c] j=0:=by
 show [a,b,c].getD j 0=0
 rw [List.getD_eq_getElem?_getD,List.getElem?_eq_none (by simpa using h)]; rfl
theorem mt_kM:KerL 3 (latM mtC) mtM:=by
 refine ⟨⟨_,mtM_isH⟩,fun y=>⟨fun h => ?_,fun ⟨h1,h2⟩ => ?_⟩⟩
 ·obtain ⟨t,rfl⟩:=span_cmb.1 h
  refine ⟨fun v hv => ?_,fun i hi => ?_⟩
  ·simp only [latM,mtC,List.map_cons,List.map_nil,List.mem_cons,List.not_mem_nil,or_false] at hv
   subst hv
   rw [vr3]
   simp [cmb,sumZ,eM,mtM]
   omega
  ·simp only [cmb,sumZ,mtM,List.length_cons,List.length_nil]
   have e1:eM [[1,0,-4],[0,1,4]] 0 i=0:=vr3_at 1 0 (-4) i hi
   have e2:eM [[1,0,-4],[0,1,4]] 1 i=0:=vr3_at 0 1 4 i hi
   simp [e1,e2]
 ·have h3:=h1 (vr [4,-4,1]) (by simp [latM,mtC])
  rw [vr3] at h3
  refine span_cmb.2 ⟨y,?_⟩
  funext j
  simp only [cmb,sumZ,mtM,List.length_cons,List.length_nil]
  rcases (show j=0∨j=1∨j=2∨3≤j by omega) with rfl | rfl | rfl | hj
  ·simp [eM]
  ·simp [eM]
  ·simp [eM]; omega
  ·have e1:eM [[1,0,-4],[0,1,4]] 0 j=0:=vr3_at 1 0 (-4) j hj
   have e2:eM [[1,0,-4],[0,1,4]] 1 j=0:=vr3_at 0 1 4 j hj
   simp [e1,e2,h2 j hj]
theorem mt_kC:KerL 3 (latM mtM) mtC:=by
 refine ⟨⟨_,mtC_isH⟩,fun y=>⟨fun h => ?_,fun ⟨h1,h2⟩ => ?_⟩⟩
 ·obtain ⟨t,rfl⟩:=span_cmb.1 h
  refine ⟨fun v hv => ?_,fun i hi => ?_⟩
  ·simp only [latM,mtM,List.map_cons,List.map_nil,List.mem_cons,List.not_mem_nil,or_false] at hv
   rcases hv with rfl | rfl
   ·rw [vr3]; simp [cmb,sumZ,eM,mtC]; omega
   ·rw [vr3]; simp [cmb,sumZ,eM,mtC]; omega
  ·simp only [cmb,sumZ,mtC,List.length_cons,List.length_nil]
   have e1:eM [[4,-4,1]] 0 i=0:=vr3_at 4 (-4) 1 i hi
   simp [e1]
 ·have h3:=h1 (vr [1,0,-4]) (by simp [latM,mtM])
  have h4:=h1 (vr [0,1,4]) (by simp [latM,mtM])
  rw [vr3] at h3 h4
  refine span_cmb.2 ⟨fun _=>y 2,?_⟩
  funext j
  simp only [cmb,sumZ,mtC,List.length_cons,List.length_nil]
  rcases (show j=0∨j=1∨j=2∨3≤j by omega) with rfl | rfl | rfl | hj
  ·simp [eM]; omega
  ·simp [eM]; omega
  ·simp [eM]
  ·have e1:eM [[4,-4,1]] 0 j=0:=vr3_at 4 (-4) 1 j hj
   simp [e1,h2 j hj]
theorem vr3_abs {a b c:Int} {B:Nat} (ha:a.natAbs≤B) (hb:b.natAbs≤B) (hc:c.natAbs≤B) (j:Nat):(vr [a,b,c] j).natAbs≤B:=by
 rcases (show j=0∨j=1∨j=2∨3≤j by omega) with rfl | rfl | rfl | hj
 ·exact ha
 ·exact hb
 ·exact hc
 ·rw [vr3_at a b c j hj]; simp
theorem mt_uC : ∃ qs d w,KSet 3 (latM mtC) qs mtC 1000000 d w:=by
 obtain ⟨d,w,h⟩:=kset_self (n:=3) (C:=4) (U:=latM mtC) (qs:=[0]) (K:=mtC) (d:=4) (w:=fun _=>vr [4,-4,1]) mtC_isH ⟨by decide,fun k hk => .mem (by simp [latM,mtC]),fun k hk s hs=>by
  have h1:k<1:=hk
  have h2:s<1:=hs
  obtain rfl:k=0:=by omega
  obtain rfl:s=0:=by omega
  rfl,fun k hk j=>vr3_abs (by decide) (by decide) (by decide) j⟩ (fun v hv => .mem hv) (fun _=>by decide)
 exact ⟨_,d,w,h⟩
theorem mt_uM : ∃ qs d w,KSet 3 (latM mtM) qs mtM 1000000 d w:=by
 obtain ⟨d,w,h⟩:=kset_self (n:=3) (C:=4) (U:=latM mtM) (qs:=[0,1]) (K:=mtM) (d:=1) (w:=fun k=>vr (mtM.getD k [])) mtM_isH ⟨by decide,fun k hk => .mem (by
  have h1:k<2:=hk
  rcases (show k=0∨k=1 by omega) with rfl | rfl <;> simp [latM,mtM]),fun k hk s hs=>by
  have h1:k<2:=hk
  have h2:s<2:=hs
  rcases (show k=0∨k=1 by omega) with rfl | rfl <;> rcases (show s=0∨s=1 by omega) with rfl | rfl <;> rfl,fun k hk j=>by
  have h1:k<2:=hk
  rcases (show k=0∨k=1 by omega) with rfl | rfl
  ·exact vr3_abs (a:=1) (b:=0) (c := -4) (by decide) (by decide) (by decide) j
  ·exact vr3_abs (a:=0) (b:=1) (c:=4) (by decide) (by decide) (by decide) j⟩ (fun v hv => .mem hv) (fun _=>by decide)
 exact ⟨_,d,w,h⟩
theorem mt_ok:TmOK mtP mtC mtM where
 pr:=by intro x hx; simp [mtP] at hx; unfold SmP; omega
 inc:=fun i h=>by
  have:i+1<3:=h
  rcases (show i=0∨i=1 by omega) with rfl | rfl
  ·show (2:Int)<3; decide
  ·show (3:Int)<5; decide
 p0:=by decide
 p4:=by decide
 kM:=mt_kM
 kC:=mt_kC
 sC:=by unfold SmK; decide
 sM:=by unfold SmK; decide
 bC:=by decide
 bM:=by decide
 uC:=mt_uC
 uM:=mt_uM
end Go.Proofs.YtjnpakablgommaaGreatDoor
namespace Go.Proofs.YtjnpakablgommaaGreatDoor
open Go.RowKit Go.Sort
theorem row3N {W:World} {b:Nat} {a0 a1 a2:Int} (h0:W.cell? ⟨b,0,none⟩=some (.int .i64 a0)) (h1:W.cell? ⟨b,1,none⟩=some (.int .i64 a1)) (h2:W.cell? ⟨b,2,none⟩=some (.int .i64 a2)):RowR W (.slice (some ⟨b,0,none⟩) 3 3) [a0,a1,a2] :=
 rowN (l:=[a0,a1,a2]) rfl fun i hi=>by
  have hi3:i<3:=hi
  rcases (show i=0∨i=1∨i=2 by omega) with rfl | rfl | rfl
  ·exact h0
  ·exact h1
  ·exact h2
theorem matN {W:World} {b n:Nat} {M:Mx} {vs:List Value} (hn:M.length=n) (hv:vs.length=n) (hc : ∀ i (h:i<vs.length),W.cell? ⟨b,i,none⟩=some vs[i]) (hr : ∀ i (h:i<M.length) (h':i<vs.length),RowR W vs[i] M[i]):MatR W (.slice (some ⟨b,0,none⟩) n n) M:=by
 refine ⟨_,b,0,n,vs,by rw [hn],by omega,by omega,⟨fun _=>rfl,fun i u hu => ?_⟩,hr⟩
 obtain ⟨hi,rfl⟩:=List.getElem?_eq_some_iff.1 hu
 rw [Nat.zero_add]; exact hc i hi
theorem mat1N {W:World} {b:Nat} {v0:Value} {r0:List Int} (h0:W.cell? ⟨b,0,none⟩=some v0) (k0:RowR W v0 r0):MatR W (.slice (some ⟨b,0,none⟩) 1 1) [r0] :=
 matN (vs:=[v0]) rfl rfl (fun i hi=>by
  have hi3:i<1:=hi
  obtain rfl:i=0:=by omega
  exact h0) (fun i hi _=>by
  have hi3:i<1:=hi
  obtain rfl:i=0:=by omega
  exact k0)
theorem mat2N {W:World} {b:Nat} {v0 v1:Value} {r0 r1:List Int} (h0:W.cell? ⟨b,0,none⟩=some v0) (h1:W.cell? ⟨b,1,none⟩=some v1) (k0:RowR W v0 r0) (k1:RowR W v1 r1):MatR W (.slice (some ⟨b,0,none⟩) 2 2) [r0,r1] :=
 matN (vs:=[v0,v1]) rfl rfl (fun i hi=>by
  have hi3:i<2:=hi
  rcases (show i=0∨i=1 by omega) with rfl | rfl
  ·exact h0
  ·exact h1) (fun i hi _=>by
  have hi3:i<2:=hi
  rcases (show i=0∨i=1 by omega) with rfl | rfl
  ·exact k0
  ·exact k1)
end Go.Proofs.YtjnpakablgommaaGreatDoor
