/- Part 7, beside the shared parts, of the proof of the claim: contracts and plain laws; no condition. -/
import Derived.Test.YtjnpakablgommaaGreatDoorX06
import Derived.Maps.AppendAt
set_option maxRecDepth 100000
namespace Go.Proofs.YtjnpakablgommaaGreatDoor
open Go.RowKit Go.Sort Go.Shelf
attribute [local go_sem] Oper.semAt_some
theorem ext_keeps {A B:World} (h:Ext A B):KeepsOthers A B:=⟨h.size,fun k _ hk _=>(h.block k (Array.getElem?_eq_some_iff.1 hk).1).trans hk⟩
theorem boxed_ext {W W':World} {B:Nat} {t:TypeId} {v:Value} (h:Boxed W B t v) (he:Ext W W'):Boxed W' B t v:=(he.block B h.lt).trans h
theorem setCell_same {W:World} {B:Nat} {t:TypeId} {v:Value} (h:Boxed W B t v):W.setCell ⟨B,0,none⟩ v=W:=by
 have e:(W.setCell ⟨B,0,none⟩ v).heap=W.heap:=by
  apply Array.ext_getElem?
  intro k
  by_cases hk:k=B
  ·subst hk; exact (h.set v).trans h.symm
  ·exact Below.heap_setCell W ⟨B,0,none⟩ v k hk
 show { W with heap:=(W.setCell ⟨B,0,none⟩ v).heap }=W
 rw [e]
def RdI (w:World) (B4 br bm gr cr n:Nat) (M:Mx) (x:List Int) (pre:List (Int×Nat×Nat)) (W:World):Prop :=
 (∃ v,Boxed W br 306 v∧W.ownsRow w.heap.size 79 1 v n (ss (redX (M.take pre.length) x))∧v=slv gr n cr) ∧
 (∃ v,Boxed W bm 306 v∧W.ownsRow B4 79 1 v pre.length (ss (redQ (M.take pre.length) x))∧True)∧Below w.heap.size w W∧B4≤W.heap.size
theorem RdI.own {w:World} {B4 br bm gr cr n D:Nat} {M:Mx} {x:List Int} (hD:w.heap.size≤D):OwnFrom D (RdI w B4 br bm gr cr n M x) :=
 OwnFrom.and (Own.from (holdsRow_own w.heap.size br 306 79 1 (fun (_:List (Int×Nat×Nat))=>n) (fun (pre:List (Int×Nat×Nat))=>ss (redX (M.take pre.length) x)) (fun _ v=>v=slv gr n cr)) _)
  (OwnFrom.and (Own.from (holdsRow_own B4 bm 306 79 1 (fun (pre:List (Int×Nat×Nat))=>pre.length) (fun (pre:List (Int×Nat×Nat))=>ss (redQ (M.take pre.length) x)) (fun _ _=>True)) _) (OwnFrom.and (ownFrom_below (Nat.le_refl _) hD) (fun _ _ _ _ hs hg _=>Nat.le_trans hs hg.size)))
theorem RdI.ext {w A B:World} {B4 br bm gr cr n:Nat} {M:Mx} {x:List Int} {pre:List (Int×Nat×Nat)} (h:RdI w B4 br bm gr cr n M x pre A) (he:Ext A B):RdI w B4 br bm gr cr n M x pre B:=by
 obtain ⟨⟨v,h1,h2,h3⟩,⟨u,k1,k2,_⟩,hb,hz⟩:=h
 exact ⟨⟨v,boxed_ext h1 he,ownsRow_ext h2 he,h3⟩,⟨u,boxed_ext k1 he,ownsRow_ext k2 he,trivial⟩,Below.trans hb (Below.mono he hb.size),Nat.le_trans hz he.size⟩
def RdlPost (w:World) (M:Mx) (x:List Int) (e:Ending) (w':World):Prop := ∃ g c v,e = .returned (.tuple #[slv g x.length c,v])∧OwnV 79 w.heap.size w' g c (ss (redX M x))∧IntsV w.heap.size w' v (redQ M x)∧Ext w w'
set_option maxHeartbeats 4000000 in
theorem lreduce_any {w:World} {sb:Option Addr} {lb cb n:Nat} {sx:Option Addr} {nx cx:Nat} {M:Mx} {ps:List Nat} {x:List Int} (hM:MatR w (.slice sb lb cb) M) (hI:IsH n ps M) (hx:RowR w (.slice sx nx cx) x) (hxl:x.length=n) (hn0:0<n) (hn4:n≤4) (hs:SmK M) (hxs : ∀ z∈x,-1000000000≤z∧z≤1000000000) (hL:Laid w) :
  Calls Tryz.prog 269 #[latv n (.slice sb lb cb),.slice sx nx cx] w (RdlPost w M x):=by
 have hml:=isH_len hI
 have h30 : ∀ z:Int,-1000000000≤z∧z≤1000000000→z.natAbs<2^30:=fun z hz=>by
  have e:(2:Nat)^30=1073741824:=by decide
  rw [e]; omega
 have hP:=hI.piv
 have hpl : ∀ r∈M,pv r<r.length:=fun r hr=>by
  obtain ⟨i,hi,rfl⟩:=List.getElem_of_mem hr
  have h1:=hI.lt i hi
  rw [isH_pv hI,getD_map pv M i hi 0 [],getD_get hi] at h1
  rw [hI.rect _ hr]; exact h1
 have Hbits:=Lib.hid (redX_bits hpl (fun r hr z hz=>h30 z (hs r hr z hz)) (fun z hz=>h30 z (hxs z hz)))
 have HP:=Lib.hid hP
 have Hpl:=Lib.hid hpl
 have HI:=Lib.hid hI
 have H30:=Lib.hid (fun r (hr:r∈M) z (hz:z∈r)=>h30 z (hs r hr z hz))
 have hpv:=fun W m l sb' lb' cb' (hl:MatR w (.slice sb' lb' cb') M) (hW:Ext w W) (hm:1≤m) (hc:W.cell? ⟨l,1,none⟩=some (.slice sb' lb' cb'))=>pivots1_seq (m:=m) (Bl:=l) (n:=n) hm hl hI.rect (by omega) (by omega) (fun r hr z hz=>by have:=hs r hr z hz; unfold I64; omega) hW hc hL
 have Hpv:=Lib.hid (fun W m l (hW:Ext w W) (hm:1≤m) (hc:W.cell? ⟨l,1,none⟩=some (.slice sb lb cb))=>hpv W m l sb lb cb hM hW hm hc)
 have hlo:=Lib.hid (fun W (hW:Ext w W)=>longOf_any (hx.ext hW) (by omega) (fun z hz=>by have:=hxs z hz; unfold I64; omega) (hL.ext hW))
 have HL:=Lib.hid hL
 have Hxl:=Lib.hid hxl
 obtain ⟨i0,hi,hz0,hz1,hz2⟩:=info_parts Tryz.infoStr
 have Hinfo:=Lib.hid (⟨hi,hz0,hz1,hz2⟩:_∧_∧_∧_)
 have hmx:Tryz.prog.follows .mixedOrders=true:=by kernel_rfl
 clear hpv hs hxs hI hP hpl hx hL hxl hM h30 hi hz0 hz1 hz2
 have hX:=(((Ext.refl w).alloc (.cells #[.int .i64 n,.slice sb lb cb] 204)).alloc (.cells #[.slice none 0 0] 306)).alloc (.cells #[.slice none 0 0] 306)
 have bR:=(Boxed.new (w.alloc (.cells #[.int .i64 n,.slice sb lb cb] 204)) 306 (.slice none 0 0)).alloc (.cells #[.slice none 0 0] 306)
 have bM:=Boxed.new ((w.alloc (.cells #[.int .i64 n,.slice sb lb cb] 204)).alloc (.cells #[.slice none 0 0] 306)) 306 (.slice none 0 0)
 have y0:((((w.alloc (.cells #[.int .i64 n,.slice sb lb cb] 204)).alloc (.cells #[.slice none 0 0] 306)).alloc (.cells #[.slice none 0 0] 306))).cell? ⟨w.heap.size,0,none⟩=some (.int .i64 n):=by go_simp
 have y1:((((w.alloc (.cells #[.int .i64 n,.slice sb lb cb] 204)).alloc (.cells #[.slice none 0 0] 306)).alloc (.cells #[.slice none 0 0] 306))).cell? ⟨w.heap.size,1,none⟩=some (.slice sb lb cb):=by go_simp
 have hsz:((((w.alloc (.cells #[.int .i64 n,.slice sb lb cb] 204)).alloc (.cells #[.slice none 0 0] 306)).alloc (.cells #[.slice none 0 0] 306))).heap.size=w.heap.size+3:=by simp
 simp only [World.size_alloc] at bR bM
 refine (callsIn_wide (n:=6)).1 ?_
 refine callsIn_of_wp_marks Tryz.func269 rfl trivial ?_ rfl
 simp only [Tryz.ntmps269,List.size_toArray,List.length_cons,List.length_nil,Nat.reduceAdd,Nat.reduceSub,Array.replicate_succ,Array.replicate_zero,List.push_toArray,List.append_toArray,List.nil_append,List.cons_append]
 gi_wp2
 refine ⟨trivial,(callsIn_wide.2 (hlo.out _ hX)).mono ?_⟩
 rintro e W2 ⟨g,c,rfl,hO,hE2⟩
 have hX2:=hX.trans hE2
 replace bR:=boxed_ext bR hE2
 replace bM:=boxed_ext bM hE2
 replace y0:=hE2.cell y0
 replace y1:=hE2.cell y1
 rw [Hxl.out]
 have c1:=bR.cell
 have f1:=bR.frozen
 have hs2:=hE2.size
 rw [hsz] at hs2
 have hO2:W2.ownsRow (w.heap.size+3) 79 1 (slv g n c) n (ss x):=by
  have:=hO; unfold OwnV at this; rw [ss_length,Hxl.out,hsz] at this; exact this
 have HO:=Lib.hid hO2
 clear hX hlo hO hE2 hsz hO2
 gi_wp2
 refine ⟨trivial,(pivots_any rfl).mono ?_⟩
 rintro e W4 ⟨rfl,rfl⟩
 gi_wp2
 have hE4:Ext w ((W2.setCell ⟨w.heap.size+1,0,none⟩ (slv g n c)).alloc (.cells #[.int .i64 n,.slice sb lb cb] 204)):=(Ext.setCell hX2 (p:=⟨w.heap.size+1,0,none⟩) (by simp) (slv g n c)).alloc _
 have hc4:((W2.setCell ⟨w.heap.size+1,0,none⟩ (slv g n c)).alloc (.cells #[.int .i64 n,.slice sb lb cb] 204)).cell? ⟨W2.heap.size,1,none⟩=some (.slice sb lb cb):=by go_simp
 have hs4:((W2.setCell ⟨w.heap.size+1,0,none⟩ (slv g n c)).alloc (.cells #[.int .i64 n,.slice sb lb cb] 204)).heap.size=W2.heap.size+1:=by simp
 have bR4:=(bR.set (slv g n c)).alloc (.cells #[.int .i64 n,.slice sb lb cb] 204)
 have bM4:=(bM.other (B':=w.heap.size+1) (by omega) (slv g n c)).alloc (.cells #[.int .i64 n,.slice sb lb cb] 204)
 have hrow4:=(World.ownsRow.kept HO.out (grownBy_setCell' W2 (w.heap.size+1) (slv g n c)) (.inr (bR.not_row (by decide) HO.out).symm)).alloc (.cells #[.int .i64 n,.slice sb lb cb] 204)
 have hg4:g<W2.heap.size:=(World.ownsRow.lt HO.out g rfl).2
 obtain ⟨W4,hW4⟩ : ∃ W4,W4=(W2.setCell ⟨w.heap.size+1,0,none⟩ (slv g n c)).alloc (.cells #[.int .i64 n,.slice sb lb cb] 204):=⟨_,rfl⟩
 rw [← hW4] at hE4 hc4 hs4 bR4 bM4 hrow4
 have hI0:RdI w W4.heap.size (w.heap.size+1) (w.heap.size+1+1) g c n M x [] W4 :=
  ⟨⟨_,bR4,by rw [List.length_nil,List.take_zero]; exact ownsRow_mono hrow4 (by omega),rfl⟩,⟨_,bM4,⟨rfl,.inl ⟨rfl,rfl⟩⟩,trivial⟩,hE4,Nat.le_refl _⟩
 rw [← hW4]
 have hg4':g<W4.heap.size:=by omega
 have hw4:=hE4.size
 clear hW4 hs4 bR4 bM4 hrow4 HO bR bM y0 y1 c1 f1 hs2 hX2 hg4
 obtain ⟨Bl,hBl⟩ : ∃ Bl,Bl=W2.heap.size:=⟨_,rfl⟩
 rw [← hBl] at hc4 ⊢
 clear hBl
 refine range_pr (Kp:=Below w.heap.size) (Pr:=PrR W4.heap.size M) (N:=M.length) (w0:=W4) rfl (by omega) (gf:=318) (lb := #[.pointer (some ⟨Bl,0,none⟩)]) rfl trivial (enters_of Tryz.func318 (by kernel_rfl) rfl) (Ext.refl _) (Hpv.out W4 _ Bl hE4 (by omega) hc4) (fun h k=>Below.trans h k) (fun W l r r' hl h=>belowK_b (w:=W4) hw4 W l _ _ hl h rfl rfl) (fun k x W l r r' h hp=>hp.put _ h rfl) (fun _=>rfl)
  (RdI w W4.heap.size (w.heap.size+1) (w.heap.size+1+1) g c n M x) (RdI.own hw4) (fun s A B h he=>h.ext he) hI0
  (fun y => { tmps := #[latv n (.slice sb lb cb),.slice sx nx cx,.pointer (some ⟨w.heap.size,0,none⟩),undef,.pointer (some ⟨w.heap.size+1,0,none⟩),.pointer (some ⟨w.heap.size+1+1,0,none⟩),.int .i64 y.1,slv y.2.1 n y.2.2,undef,undef,undef,.slice sx nx cx,slv g n c,.agg #[.int .i64 n,.slice sb lb cb],.func (.func 318) #[] #[.pointer (some ⟨Bl,0,none⟩)],.int .i64 y.1,slv y.2.1 n y.2.2,undef,undef,undef,undef,undef,undef,undef,undef,undef,undef,undef,undef,undef,undef,undef,undef,undef,undef,undef,undef,undef,undef,undef],defers:=[] }) ?assign ?body ?done
 case assign =>
  intro l y W K hK
  gi_wp2
  exact hK
 case body =>
  rintro l pre ⟨z,g2,c2⟩ W ⟨⟨v,hbR,hrow,rfl⟩,⟨u,hbM,hmul,_⟩,hB,hB4⟩ hlt ⟨hz,hOr⟩
  obtain ⟨k,hk⟩ : ∃ k,k=pre.length:=⟨_,rfl⟩
  have hkM:k<M.length:=by omega
  have hstep:=redX_take hkM x
  have hqstep:=redQ_take hkM x
  dsimp only at hz hOr
  rw [← hk] at hrow hmul hz hOr
  have hrl:(M.getD k []).length=n:=by rw [getD_get hkM]; exact HI.out.rect _ (List.getElem_mem hkM)
  have hpn:=Hpl.out (M.getD k []) (by rw [getD_get hkM]; exact List.getElem_mem hkM)
  have hrp:(M.getD k []).getD (pv (M.getD k [])) 0≠0:=pv_ne hpn
  have hpI:pvI (M.getD k [])=(pv (M.getD k []):Int):=by unfold pvI; rw [if_pos hpn]
  have hr30 : ∀ t∈M.getD k [],t.natAbs<2^30:=by rw [getD_get hkM]; exact H30.out _ (List.getElem_mem hkM)
  have hyb:=Hbits.out k (by omega)
  have hyl:(redX (M.take k) x).length=n:=by rw [redX_length,Hxl.out]
  generalize M.getD k []=r at *
  generalize redX (M.take k) x=y at *
  have hOy:OwnV 79 w.heap.size W g c (ss y):=by unfold OwnV; rw [ss_length,hyl]; exact hrow
  obtain ⟨E,hE⟩ : ∃ E:Nat,E=154:=⟨_,rfl⟩
  have hEs:30+(30+1)*k≤E:=by omega
  have hEs0:30≤E:=by omega
  have hyb2 : ∀ z∈y,z.natAbs<2^E:=fun z hz=>Nat.lt_of_lt_of_le (hyb z hz) (Nat.pow_le_pow_right (by omega) hEs)
  have hrb2 : ∀ z∈r,z.natAbs<2^E:=fun z hz=>Nat.lt_of_lt_of_le (hr30 z hz) (Nat.pow_le_pow_right (by omega) hEs0)
  have hq2:(stepQ r y).natAbs<2^E:=stepQ_abs hrp (Nat.pow_pos (by omega)) hyb2
  have hEL:2*E+2<LIM:=by rw [hE]; unfold LIM; omega
  have hpm:pv r<n:=by omega
  have cq:=hOy.cell (j:=pv r) (by rw [ss_length,hyl]; exact hpm)
  have cr0:=hOr.cell (j:=pv r) (by rw [ss_length,hrl]; exact hpm)
  rw [ss_at (by omega)] at cq cr0
  have hdy:nd (y.getD (pv r) 0)<LIM:=by
   rw [getD_get (by omega)]
   have:=nd_lt2 (hyb2 _ (List.getElem_mem (by omega:pv r<y.length))); omega
  have hdr:nd (r.getD (pv r) 0)<LIM:=by
   rw [getD_get (by omega)]
   have:=nd_lt2 (hrb2 _ (List.getElem_mem (by omega:pv r<r.length))); omega
  have hwW:Ext w W:=hB
  have hgb:w.heap.size≤g∧g<W.heap.size:=World.ownsRow.lt hrow g rfl
  have hg2:W4.heap.size≤g2:=(World.ownsRow.lt hOr g2 rfl).1
  have hne:g2≠g:=by omega
  have Hdm:=Lib.hid (fun W' (hW:Ext w W')=>DivMod_any (a:=y.getD (pv r) 0) (b:=r.getD (pv r) 0) (w:=W') hdy hdr hrp (HL.out.ext hW))
  have Hle:=Lib.hid (fun W' (hW:Ext W W')=>by
   have h8:=lless_any (w0:=w) (w:=W') (ga:=g) (ca:=c) (k:=stepQ r y) (cb:=c2) (hOy.ext hW) ((hOr.ext hW).sl) hne (by rw [hrl,hyl]) (by omega) (less_big hyb2 hrb2 hq2 hEL) HL.out (hwW.trans hW)
   rw [hyl] at h8
   exact h8)
  obtain ⟨p,hp⟩ : ∃ p,p=pv r:=⟨_,rfl⟩
  obtain ⟨a,ha⟩ : ∃ a,a=y.getD p 0:=⟨_,rfl⟩
  obtain ⟨b,hb⟩ : ∃ b,b=r.getD p 0:=⟨_,rfl⟩
  have hqe:stepQ r y=a.fdiv b:=by rw [ha,hb,hp]; rfl
  rw [← hp] at cq cr0 hpm Hdm hpI
  rw [← ha] at cq Hdm
  rw [← hb] at cr0 Hdm
  rw [hqe] at Hle hstep hqstep
  have Hstep:=Lib.hid hstep
  have Hqstep:=Lib.hid hqstep
  have hz2:z=(p:Int):=by rw [hz,hpI]
  subst hz2
  have hpmI:(p:Int)<(n:Int):=by omega
  have Hk:=Lib.hid hk
  have Hyl:=Lib.hid hyl
  have Hmul:=Lib.hid hmul
  have Hrow:=Lib.hid hrow
  have Hlt:=Lib.hid hlt
  have k1:=cell_regrown cq
  have k2:=cell_regrown cr0
  have k3:=cell_regrown hbR.cell
  have bD:=Lib.hid (quietC (w:=W) (fun W' h=>Hdm.out W' (hwW.trans h)))
  clear hz hpI hrl hpn hrp hr30 hyb hyl hOr hOy hE hEs hEs0 hyb2 hrb2 hq2 hEL hdy hdr hne hp ha hb hqe hstep hqstep hk hmul hrow hlt Hdm
  gi_wp2
  refine round_quiet hmx (by kernel_rfl) (by kernel_rfl) (fun _ _ h=>h) ?_
  repeat (quiet_step (exact bD.out _ _))
  refine wpQuiet_nil ?_
  intro _ hw'
  obtain ⟨⟨dq,osq⟩,hw''⟩:=hw'
  subst hw''
  have hE6:=ext_regrown W dq osq
  have bR6:=boxed_ext hbR hE6
  have bM6:=boxed_ext hbM hE6
  have c6:=bR6.cell
  have cg6:=hE6.cell cq
  have Hmul6:=Lib.hid (ownsRow_ext Hmul.out hE6)
  have Hle6:=Lib.hid (Hle.out _ hE6)
  clear bD k1 k2 k3 Hle
  generalize hW6:grow (redrawn _ _) _=W6 at *
  clear hW6
  gi_wp2
  refine ⟨trivial,(callsIn_wide.2 Hle6.out).mono ?_⟩
  rintro e W7 ⟨rfl,hX7,hG7⟩
  rw [← Hstep.out] at hX7
  generalize a.fdiv b=q at *
  have hug : ∀ g',u.ownBlock=some g'→W4.heap.size≤g':=fun g' h=>(World.ownsRow.lt Hmul6.out g' h).1
  have Hug:=Lib.hid (show u.ownBlock≠some g from fun h=>by have:=hug g h; omega)
  have hrow6:W6.ownsRow w.heap.size 79 1 (slv g n c) n (ss y):=ownsRow_ext Hrow.out hE6
  have bR7:=bR6.kept hG7 (bR6.not_row (by decide) hrow6)
  have bM7:=bM6.kept hG7 (bM6.not_row (by decide) hrow6)
  have hmul7:W7.ownsRow W4.heap.size 79 1 u k (ss (redQ (M.take k) x)):=World.ownsRow.kept Hmul6.out hG7 (by
   cases hu:u.ownBlock with
   | none=>exact .inl rfl
   | some g'=>exact .inr (fun e=>Hug.out (by rw [hu,e])))
  have hrow7:W7.ownsRow w.heap.size 79 1 (slv g n c) n (ss (redX (M.take (k+1)) x)):=by
   have:=hX7; unfold OwnV at this; rw [ss_length,redX_length,Hxl.out] at this; exact this
  have Hmul7:=Lib.hid hmul7
  have Hrow7:=Lib.hid hrow7
  have hs7:=hG7.size
  have hs6:=hE6.size
  have h7a:W4.heap.size≤W7.heap.size:=by omega
  have c7:=bM7.cell
  have hqk:(redQ (M.take k) x).length=k:=by rw [redQ_length,List.length_take]; omega
  clear hX7 hmul7 hrow7 hug hrow6 Hle6 bR6 bM6 c6
  gi_wp2_with (gi_at_builtin; refine wpListIn_append_own _ rfl _ _ 306 rfl W4.heap.size 79 i0 (.string ⟨#[]⟩) 1 16 Tryz.underlying306 Hinfo.out.1 Hinfo.out.2.1 Hinfo.out.2.2.1 Hinfo.out.2.2.2 rfl (by decide) _ _ _ rfl (Hmul7.out.alloc _) ⟨W7.heap.size,0,none⟩ 1 1 [I q] rfl rfl (cell_one_new _ _ _) (by intro t ht; simp at ht; subst ht; rfl) (by unfold maxLen; omega) (by omega) (by simp; omega) ?_; intro v' w1 hown' hgrow _; obtain ⟨g',cap',rfl⟩:=ownsRow_succ hown'; obtain ⟨hv1,hv2,hr2,hk2,hb2⟩:=bM7.appended (by decide) (ownsRow_mono Hmul7.out hw4) (by omega) (by omega) (ownsRow_mono hown' hw4) hgrow; have hbb:=(Boxed.kept (Boxed.alloc bR7 (.cells #[I q] 79)) hgrow (Boxed.not_row bR7 (by decide) Hmul7.out)).other (B':=w.heap.size+1+1) (by omega) (.slice (some ⟨g',0,none⟩) (k+1) cap'); have hc1:=hv1.cell; have hf1:=hv1.frozen)
  have hlen1:(pre++[((p:Int),g2,c2)]).length=k+1:=by rw [List.length_append, ← Hk.out]; rfl
  have hkp:KeepsOthers W (w1.setCell ⟨w.heap.size+1+1,0,none⟩ (.slice (some ⟨g',0,none⟩) (k+1) cap')):=((ext_keeps hE6).trans (KeepsOthers.of_grownBy hG7 (fun j o ej hj=>by
   injection ej with ej
   subst ej
   obtain ⟨o',ho',hc'⟩:=cells_of_cell cg6
   rw [show W6.heap[g]? = some o' from ho'] at hj
   injection hj with hj
   rw [← hj]; exact hc'))).trans hk2
  have hbw:Below w.heap.size W (w1.setCell ⟨w.heap.size+1+1,0,none⟩ (.slice (some ⟨g',0,none⟩) (k+1) cap')):=((Below.mono hE6 hB.size).trans ((Below.refl _ _).grown hG7 (by omega) (fun q' hq'=>by cases hq'; exact hgb.1))).trans hb2
  have hrest:=World.ownsRow.kept (World.ownsRow.alloc Hrow7.out (.cells #[I q] 79)) hgrow (.inr (fun e=>Hug.out e.symm))
  have hrest2:=World.ownsRow.kept hrest (grownBy_setCell' w1 (w.heap.size+1+1) (.slice (some ⟨g',0,none⟩) (k+1) cap')) (.inr (hv1.not_row (by decide) hrest).symm)
  have hmul2:=World.ownsRow.kept hown' (grownBy_setCell' w1 (w.heap.size+1+1) (.slice (some ⟨g',0,none⟩) (k+1) cap')) (.inr (hv1.not_row (by decide) hown').symm)
  refine ⟨hkp.from _,hbw,?_⟩
  refine ⟨⟨_,hbb,by rw [hlen1]; exact hrest2,rfl⟩,⟨_,hv2,?_,trivial⟩,hB.trans hbw,Nat.le_trans hB4 hbw.size⟩
  rw [hlen1,Hqstep.out,show ss (redQ (M.take k) x++[q])=ss (redQ (M.take k) x)++[I q] by simp [ss]]
  exact hmul2
 case done =>
  rintro D xs W hD hxs hRd hK
  have hI6:=Lib.hid ((RdI.own hw4).putObj (.deferred none) (hRd.ext ((Ext.refl W).drew)) hD (show W.drew.heap[D]? = some (.deferred (some [])) from hK) rfl)
  obtain ⟨⟨v,hbR,hrow,rfl⟩,⟨u,hbM,hmul,_⟩,hB,hB4⟩:=hRd
  rw [hxs,List.take_length] at hrow hmul
  have hmi:IntsV W4.heap.size W u (redQ M x):=by unfold IntsV; rw [redQ_length]; exact hmul
  obtain ⟨ga,gb,cap,rfl,_,_⟩:=hmi.sl
  rw [redQ_length] at *
  have hcR:=hbR.cell
  have hcM:=hbM.cell
  have hfR:=hbR.frozen
  have hfM:=hbM.frozen
  gi_wp2
  gi_region
  rw [setCell_same hbR,setCell_same hbM]
  gi_wp2
  refine ⟨by simp,.inl ⟨_,_,rfl,run_takeDeferred (show W.drew.heap[D]? = some (.deferred (some [])) from hK),?_⟩⟩
  obtain ⟨⟨v,jR,jrow,rfl⟩,⟨u,jM,jmul,_⟩,jB,_⟩:=hI6.out
  rw [hxs,List.take_length] at jrow jmul
  have jc1:=jR.cell
  have jc2:=jM.cell
  refine ⟨.tuple #[slv g n c,u],?_,⟨g,c,u,by rw [Hxl.out],by unfold OwnV; rw [ss_length,redX_length,Hxl.out]; exact jrow,by unfold IntsV; rw [redQ_length]; exact ownsRow_mono jmul hw4,jB⟩⟩
  simp [results,Tryz.results269,go_sem,jc1,jc2]
end Go.Proofs.YtjnpakablgommaaGreatDoor
namespace Go.Proofs.YtjnpakablgommaaGreatDoor
open Go.RowKit Go.Sort
set_option maxHeartbeats 2000000 in
theorem lcheckRow_ok {w:World} {sb:Option Addr} {lb cb n:Nat} {sx:Option Addr} {nx cx:Nat} {M:Mx} {ps:List Nat} {x:List Int} (hM:MatR w (.slice sb lb cb) M) (hI:IsH n ps M) (hn:n≤12) (hl:M.length≤12) (hs:SmK M) (hx:RowR w (.slice sx nx cx) x) (hxl:x.length=n) (hc:chkRow x=0) :
  Calls Tryz.prog 268 #[latv n (.slice sb lb cb),.slice sx nx cx] w fun e w'=>e = .returned (.int .i64 0)∧Ext w w':=by
 have hck:=Lib.hid (fun W (hW:Ext w W)=>latCheck_ok (hM.ext hW) hI hn hl hs)
 have hrc:=fun W (hW:Ext w W)=>rowCheck_any (hx.ext hW)
 rw [hc] at hrc
 have Hrc:=Lib.hid hrc
 have hnx:nx=n:=by obtain ⟨_,_,_,_,e,_⟩:=hx; injection e with _ e _; omega
 subst hnx
 have hX:=(Ext.refl w).alloc (.cells #[.int .i64 nx,.slice sb lb cb] 204)
 have y0:(w.alloc (.cells #[.int .i64 nx,.slice sb lb cb] 204)).cell? ⟨w.heap.size,0,none⟩=some (.int .i64 nx):=by go_simp
 have y1:(w.alloc (.cells #[.int .i64 nx,.slice sb lb cb] 204)).cell? ⟨w.heap.size,1,none⟩=some (.slice sb lb cb):=by go_simp
 clear hM hI hn hl hs hx hxl hc hrc
 go_enter Tryz.func268,Tryz.ntmps268
 go_wp2_with fail
 refine (hck.out _ hX).mono ?_
 rintro e W1 ⟨rfl,hE1⟩
 replace y0:=hE1.cell y0
 replace hX:=hX.trans hE1
 clear y1 hE1 hck
 go_wp2_with fail
 refine (Hrc.out _ hX).mono ?_
 rintro e W2 ⟨rfl,hE2⟩
 replace y0:=hE2.cell y0
 replace hX:=hX.trans hE2
 go_wp2_with fail
 go_ret
 exact ⟨rfl,hX⟩
def LrpPost (w:World) (M:Mx) (x:List Int) (e:Ending) (w':World):Prop :=
 Ext w w'∧((smallB (redX M x)=true ∧ ∃ v,e = .returned (.tuple #[v,.int .i64 0])∧RowV w.heap.size w' v (redX M x))∨(smallB (redX M x)=false∧e = .returned (.tuple #[.slice none 0 0,.int .i64 4])))
set_option maxHeartbeats 2000000 in
theorem lRepresent_any {w:World} {sb:Option Addr} {lb cb n:Nat} {sx:Option Addr} {nx cx:Nat} {M:Mx} {ps:List Nat} {x:List Int} (hM:MatR w (.slice sb lb cb) M) (hI:IsH n ps M) (hn0:0<n) (hn4:n≤4) (hs:SmK M) (hx:RowR w (.slice sx nx cx) x) (hxl:x.length=n) (hc:chkRow x=0) (hL:Laid w) :
  Calls Tryz.prog 219 #[latv n (.slice sb lb cb),.slice sx nx cx] w (LrpPost w M x):=by
 have hml:=isH_len hI
 have hxb:=(chkRow_ok hc).2
 have H64:=Lib.hid (chkRow_ok hc).1
 have hck:=Lib.hid (fun W (hW:Ext w W)=>lcheckRow_ok (hM.ext hW) hI (by omega) (by omega) hs (hx.ext hW) hxl hc)
 have hrd:=Lib.hid (fun W (hW:Ext w W)=>lreduce_any (hM.ext hW) hI (hx.ext hW) hxl hn0 hn4 hs hxb (hL.ext hW))
 have hP:=hI.piv
 have hpl : ∀ r∈M,pv r<r.length:=fun r hr=>by
  obtain ⟨i,hi,rfl⟩:=List.getElem_of_mem hr
  have h1:=hI.lt i hi
  rw [isH_pv hI,getD_map pv M i hi 0 [],getD_get hi] at h1
  rw [hI.rect _ hr]; exact h1
 have h30 : ∀ z:Int,-1000000000≤z∧z≤1000000000→z.natAbs<2^30:=fun z hz=>by
  have e:(2:Nat)^30=1073741824:=by decide
  rw [e]; omega
 have hbits:=redX_bits hpl (fun r hr z hz=>h30 z (hs r hr z hz)) (fun z hz=>h30 z (hxb z hz)) M.length (Nat.le_refl _)
 rw [List.take_length] at hbits
 have Hnd:=Lib.hid (fun z (hz:z∈redX M x)=>show nd z≤LIM by
  have:=nd_lt2 (hbits z hz)
  unfold LIM; omega)
 have HL:=Lib.hid hL
 have hrl:(redX M x).length=x.length:=redX_length _ _
 have Hrl:=Lib.hid hrl
 have hX:=(Ext.refl w).alloc (.cells #[.int .i64 n,.slice sb lb cb] 204)
 have y0:(w.alloc (.cells #[.int .i64 n,.slice sb lb cb] 204)).cell? ⟨w.heap.size,0,none⟩=some (.int .i64 n):=by go_simp
 have y1:(w.alloc (.cells #[.int .i64 n,.slice sb lb cb] 204)).cell? ⟨w.heap.size,1,none⟩=some (.slice sb lb cb):=by go_simp
 clear hM hI hn0 hn4 hs hx hc hml hxb hP hpl h30 hbits hL hrl hxl
 go_enter Tryz.func219,Tryz.ntmps219
 go_wp2_with fail
 refine (hck.out _ hX).mono ?_
 rintro e W1 ⟨rfl,hE1⟩
 replace y0:=hE1.cell y0
 replace y1:=hE1.cell y1
 replace hX:=hX.trans hE1
 clear hE1 hck
 go_wp2_with fail
 refine (hrd.out _ hX).mono ?_
 rintro e W2 ⟨g,c,v,rfl,hO,hV,hE2⟩
 replace hX:=hX.trans hE2
 obtain ⟨ga,gb,cap,rfl,_,_⟩:=hV.sl
 have hsh:=lshort_any (cap:=c) (w:=W2) hO.sl (by rw [Hrl.out]; have:=H64.out; omega) Hnd.out (HL.out.ext hX)
 rw [Hrl.out] at hsh
 have Hsh:=Lib.hid hsh
 clear hO hV hsh hrd
 generalize x.length=m at *
 go_wp2_with fail
 refine Hsh.out.mono ?_
 rintro e W3 ⟨hr,hE3⟩
 have hXF:=hX.trans hE3
 have hsz:=hX.size
 cases hb:smallB (redX M x)
 ·rw [hb] at hr
  have hr2:e = .returned (.tuple #[.slice none 0 0,.int .i64 4]):=by simpa using hr
  subst hr2
  have Hb:=Lib.hid hb
  clear hr hb
  go_wp2_with fail
  go_ret2
  exact ⟨hXF,.inr ⟨Hb.out,rfl⟩⟩
 ·rw [hb,if_pos rfl] at hr
  obtain ⟨u,rfl,hu⟩:=hr
  have Hu:=Lib.hid (hu.v.mono hsz)
  have Hb:=Lib.hid hb
  clear hb hu
  go_wp2_with fail
  go_ret2
  exact ⟨hXF,.inl ⟨Hb.out,_,rfl,Hu.out⟩⟩
theorem solve_num : ∀ (n c:Fin 5),2*((bC n.val 30 (c.val+n.val)+(bC n.val 30 (c.val+n.val)+1)*n.val)+((bC n.val 30 (c.val+n.val)+(bC n.val 30 (c.val+n.val)+1)*n.val)+1)*n.val)+6<LIM:=by decide +kernel
theorem checkM_rect {c:Nat} {A:Mx} (hR:Rect c A) (hl:A.length≤12) (hc:c≤12) (hs:SmK A):checkM A=0:=by
 unfold checkM
 rw [if_neg (by omega)]
 refine chk_all _ _ fun j hj => ?_
 have hj':=hR _ (List.getElem_mem hj)
 have h0:(A.getD 0 []).length=c:=by rw [getD_get (by omega)]; exact hR _ (List.getElem_mem _)
 have hg:A[j].any grt=false:=by
  cases h:A[j].any grt
  ·rfl
  ·obtain ⟨z,hz,hg⟩:=List.any_eq_true.1 h
   have:=hs _ (List.getElem_mem hj) z hz
   unfold grt at hg
   have:=of_decide_eq_true hg
   omega
 unfold chkR
 rw [if_neg (by omega),if_neg (by omega),hg]; rfl
def PrePost (w:World) (n:Nat) (C M:Mx) (r:List Int) (e:Ending) (w':World):Prop :=
 Ext w w'∧((∃ v x,e = .returned (.tuple #[v,.int .i64 0])∧RowV w.heap.size w' v x∧PreOK n C M r x)∨e = .returned (.tuple #[.slice none 0 0,.int .i64 4]))
def PreWhy (w:World) (n:Nat) (C M:Mx) (r:List Int) (e:Ending) (w':World):Prop :=
 Ext w w'∧((∃ v x,e = .returned (.tuple #[v,.int .i64 0])∧RowV w.heap.size w' v x∧PreOK n C M r x)∨(e = .returned (.tuple #[.slice none 0 0,.int .i64 4]) ∧ ∃ x,x.length=n∧tmpL M x=r∧redX C x=x ∧ ¬ smallB x=true))
theorem PreWhy.post {w:World} {n:Nat} {C M:Mx} {r:List Int} {e:Ending} {w':World} (h:PreWhy w n C M r e w'):PrePost w n C M r e w':=⟨h.1,h.2.imp id And.left⟩
theorem sol_rep {P:List Int} {C M H:Mx} {r:List Int} (h:TmOK P C M) (hH:HnfOf (M.length+(trM P.length M).length) (wideM (trM P.length M)) H) (hr:r.length=M.length) (hnf:zeroL ((solL M.length H (trM P.length M).length r).take M.length)) :
  ∃ x,x=solX M.length H (trM P.length M).length r∧x.length=P.length∧tmpL M x=r∧redX C x=x:=by
 have hH2:=hH
 rw [trM_length] at hH2
 have hKC:krn M.length H=C:=(ker_of_wide hH2).uniq h.kC
 have hl:(solX M.length H (trM P.length M).length r).length=P.length:=by rw [solX_length hr,trM_length]
 refine ⟨_,rfl,hl,tmp_of_cmb hl hr (solX_cmb (trM_rect _ _) hH hr hnf),?_⟩
 unfold solX
 rw [hKC]
 exact h.rep_rep (by simp [solL_length,hr])
theorem small_chk {l:List Int} (h:smallB l=true) (hl:l.length≤64):chkRow l=0:=by
 unfold chkRow
 rw [if_neg (by omega)]
 have:l.any grt=false:=by
  cases hg:l.any grt
  ·rfl
  ·obtain ⟨z,hz,hzg⟩:=List.any_eq_true.1 hg
   have:=smallB_iff.1 h z hz
   unfold grt at hzg
   have:=of_decide_eq_true hzg
   omega
 rw [this]; rfl
set_option maxHeartbeats 4000000 in
theorem gpreimage_why {w:World} {P:List Int} {C M:Mx} {sp:Option Addr} {cp:Nat} {sc:Option Addr} {lc cc:Nat} {sm:Option Addr} {lm cm:Nat} {sx:Option Addr} {nx cx:Nat} {r:List Int} (h:TmV w P C M M sp cp sc lc cc sm lm cm) (hx:RowR w (.slice sx nx cx) r) (hrl:r.length=M.length) (hck:chkRow r=0) (hL:Laid w) :
  Calls Tryz.prog 160 #[tmS P sp cp sc lc cc sm lm cm,.slice sx nx cx] w (PreWhy w P.length C M r):=by
 have hp0:=h.ok.p0
 have hp4:=h.ok.p4
 obtain ⟨psM,hIM⟩:=h.ok.kM.1
 obtain ⟨psC,hIC⟩:=h.ok.kC.1
 have hlM:=isH_len hIM
 have hnx:nx=r.length:=by obtain ⟨_,_,_,_,e,_⟩:=hx; injection e
 rw [hrl] at hnx
 have hX:=(Ext.refl w).alloc (.cells #[.slice sp P.length cp,.slice sc lc cc,.slice sm lm cm] 34)
 have x0:(w.alloc (.cells #[.slice sp P.length cp,.slice sc lc cc,.slice sm lm cm] 34)).cell? ⟨w.heap.size,0,none⟩=some (.slice sp P.length cp):=by go_simp
 have x1:(w.alloc (.cells #[.slice sp P.length cp,.slice sc lc cc,.slice sm lm cm] 34)).cell? ⟨w.heap.size,1,none⟩=some (.slice sc lc cc):=by go_simp
 have x2:(w.alloc (.cells #[.slice sp P.length cp,.slice sc lc cc,.slice sm lm cm] 34)).cell? ⟨w.heap.size,2,none⟩=some (.slice sm lm cm):=by go_simp
 by_cases h0:M.length=0
 ·have Hpz:=Lib.hid (pre_zero h.ok h0)
  have hr0:r=[]:=List.eq_nil_of_length_eq_zero (by omega)
  obtain ⟨i0,hi,hz0,hz1,hz2⟩:=info_parts Tryz.infoInt
  have hn0:nx=0:=by omega
  subst hn0
  have Hr0:=Lib.hid hr0
  have hsz:(w.alloc (.cells #[.slice sp P.length cp,.slice sc lc cc,.slice sm lm cm] 34)).heap.size=w.heap.size+1:=by simp
  have Hsz:=Lib.hid hsz
  clear h hx hrl hck hL hIM hIC hlM h0 hnx hr0 hsz
  go_enter Tryz.func160,Tryz.ntmps160
  go_wp2_with (at_make; refine wpList_make_full _ rfl _ _ 30 rfl w.heap.size 3 i0 (.int .i64 0) 1 Tryz.underlying30 hi hz0 hz1 .i64 .i64 _ _ P.length rfl rfl (by omega) (by omega) (by rw [hz2]; omega) (by unfold maxLen; omega) (by simp) ?_; intro w1 hown1 hgrow1)
  have hE1:=hX.trans (ext_grown hgrow1)
  have hb0:=zero_row hown1
  rw [World.size_alloc] at hb0
  have Hb:=Lib.hid hb0
  clear hown1 hgrow1 hX hb0
  go_wp2_with fail
  go_ret2
  exact ⟨hE1,.inl ⟨_,_,rfl,Hb.out,by rw [Hr0.out]; exact Hpz.out⟩⟩
 ·have hnc:ncols M=P.length:=by
   unfold ncols
   rw [getD_get (by omega)]; exact hIM.rect _ (List.getElem_mem _)
  have hckM:=(chk_of_form hIM (by omega) (by omega) h.ok.sM).1
  have htr:=fun W (hW:Ext w W)=>transpose_any (h.hM.ext hW) hckM
  rw [hnc] at htr
  have Htr:=Lib.hid htr
  obtain ⟨A,hA⟩ : ∃ A,A=trM P.length M:=⟨_,rfl⟩
  have hAR:Rect M.length A:=by rw [hA]; exact trM_rect _ _
  have hAl:A.length=P.length:=by rw [hA]; simp
  have hAs:SmK A:=by rw [hA]; exact trM_ent h.ok.sM (by omega)
  have hAc:ncols A=M.length:=by rw [hA]; exact trM_ncols hp0
  have hsz0:sizeE A r=0:=by
   unfold sizeE
   rw [if_pos (checkM_rect hAR (by omega) (by omega) hAs),if_pos hck,if_neg (by rw [hAc]; omega)]
  have hnum:=solve_num ⟨P.length,by omega⟩ ⟨M.length,by omega⟩
  have hso:=Lib.hid (fun W v (hW:Ext w W) (hv:MatR W v A)=>Solve_any (c:=M.length) (E:=bC A.length 30 (M.length+A.length)) hv (hx.ext hW) hsz0 (by omega) hAc.symm rfl (by rw [hAl]; exact hnum) (hL.ext hW))
  have hre:=Lib.hid (fun W va (y:List Int) (k:Nat) (hW:Ext w W) (hv:RowV k W va y) (hy:y.length=P.length) (hs:smallB y=true) (s:Option Addr) (m c:Nat) (e:va = .slice s m c)=>show Calls Tryz.prog 219 #[latv P.length (.slice sc lc cc),.slice s m c] W (LrpPost W C y) by
   subst e
   exact lRepresent_any (x:=y) (h.hC.ext hW) hIC hp0 hp4 h.ok.sC hv.row hy (small_chk (l:=y) hs (by rw [hy]; omega)) (hL.ext hW))
  have Hnf:=Lib.hid (fun H (hH:HnfOf (M.length+A.length) (wideM A) H)=>(sol_zero hAR hH hrl).2 (by
   rw [hA] at hH ⊢; exact onto h.ok.kM hH hrl))
  have Hpre:=Lib.hid (fun H (hH:HnfOf (M.length+A.length) (wideM A) H) (hs:smallB (redX C (solX M.length H A.length r))=true)=>by
   have hxl:(solX M.length H A.length r).length=P.length:=by rw [solX_length hrl,hAl]
   have hcm:=solX_cmb hAR hH hrl (Hnf.out H hH)
   have hH2:=hH
   rw [hA] at hH2 hcm
   rw [hA] at hxl
   have:=pre_of h.ok hH2 hrl hxl hcm (by rw [← hA]; exact smallB_iff.1 hs)
   rw [← hA] at this
   exact this)
  have Hw1:=Lib.hid (fun H (hH:HnfOf (M.length+A.length) (wideM A) H)=>show ∃ x,x=solX M.length H A.length r∧x.length=P.length∧tmpL M x=r∧redX C x=x by
   have hz:=Hnf.out H hH
   rw [hA] at hH hz ⊢
   exact sol_rep h.ok hH hrl hz)
  have Hrr:=Lib.hid (fun (x:List Int) (hx:x.length=P.length) (ht:tmpL M x=r)=>show (redX C x).length=P.length∧tmpL M (redX C x)=r∧redX C (redX C x)=redX C x from ⟨by simp [hx],by rw [h.ok.rep hx]; exact ht,h.ok.rep_rep hx⟩)
  have Hxl:=Lib.hid (fun H=>show (solX M.length H A.length r).length=P.length by rw [solX_length hrl,hAl])
  rw [← hA] at Htr
  have h0I : ¬ (nx:Int)=0:=by omega
  have h0b:((nx:Int)==0)=false:=beq_eq_false_iff_ne.2 h0I
  clear h hx hrl hck hL hIM hIC hlM h0 hnx hnc hckM htr hA hAR hAl hAs hAc hsz0 hnum
  go_enter Tryz.func160,Tryz.ntmps160
  go_wp2_with fail
  refine (Htr.out _ hX).mono ?_
  rintro e X1 ⟨u,rfl,hu,hE1⟩
  have y0:=hE1.cell x0
  have y1:=hE1.cell x1
  have e1:=hX.trans hE1
  have hso1:=Lib.hid (hso.out _ _ e1 hu.mat)
  obtain ⟨ua,ul,uk,rfl⟩:=hu.slice
  clear x0 x1 x2 hX hE1 hu hso Htr
  go_wp2_with fail
  refine hso1.out.mono ?_
  rintro e X2 ⟨H,hH,hE2,(⟨hz,rfl⟩ | ⟨hz,hb,v,rfl,hv⟩ | ⟨hz,hb,rfl⟩)⟩
  ·exact absurd (Hnf.out H hH) hz
  ·have z0:=hE2.cell y0
   have z1:=hE2.cell y1
   have e2:=e1.trans hE2
   have hre1:=Lib.hid (hre.out _ _ _ _ e2 hv (Hxl.out H) hb)
   have hvs : ∃ s m c,v = .slice s m c:=by obtain ⟨a,_,_,k,e,_⟩:=hv.row; exact ⟨_,_,_,e⟩
   obtain ⟨va,vl,vk,rfl⟩:=hvs
   have hre2:=Lib.hid (hre1.out _ _ _ rfl)
   have Hp:=Lib.hid (Hpre.out H hH)
   have Hww:=Lib.hid (show (redX C (solX M.length H A.length r)).length=P.length∧tmpL M (redX C (solX M.length H A.length r))=r∧redX C (redX C (solX M.length H A.length r))=redX C (solX M.length H A.length r) by
    obtain ⟨x,rfl,a1,a2,_⟩:=Hw1.out H hH
    exact Hrr.out _ a1 a2)
   have hsz:=e2.size
   clear hre1 hre hv hz hb hE2 y0 y1 hso1 Hpre Hnf Hxl hH Hw1 Hrr
   generalize solX M.length H A.length r=xs at *
   go_wp2_with fail
   refine hre2.out.mono ?_
   rintro e X3 ⟨hE3,(⟨hs,v3,rfl,hv3⟩ | ⟨hs,rfl⟩)⟩
   ·have Hv:=Lib.hid (hv3.mono hsz)
    have Hp2:=Lib.hid (Hp.out hs)
    have e3:=e2.trans hE3
    clear hv3 hs hre2 Hp
    go_wp2_with fail
    go_ret2
    exact ⟨e3,.inl ⟨_,_,rfl,Hv.out,Hp2.out⟩⟩
   ·have e3:=e2.trans hE3
    have Hres:=Lib.hid (show PreWhy w P.length C M r (.returned (.tuple #[.slice none 0 0,.int .i64 4])) _ from ⟨e3,.inr ⟨rfl,_,Hww.out.1,Hww.out.2.1,Hww.out.2.2,by simp [hs]⟩⟩)
    clear hs
    go_wp2_with fail
    go_ret2
    exact Hres.out
  ·have e2:=e1.trans hE2
   have Hres:=Lib.hid (show PreWhy w P.length C M r (.returned (.tuple #[.slice none 0 0,.int .i64 4])) _ from ⟨e2,.inr ⟨rfl,by
    obtain ⟨x,ex,a1,a2,a3⟩:=Hw1.out H hH
    exact ⟨x,a1,a2,a3,by rw [ex]; simp [hb]⟩⟩⟩)
   clear hz hb
   go_wp2_with fail
   go_ret2
   exact Hres.out
def SecFine (w:World) (n:Nat) (C M:Mx) (e:Ending) (w':World):Prop :=
 Ext w w' ∧ ∃ v S,e = .returned (.tuple #[v,.int .i64 0])∧MatO w.heap.size w' v S∧SecOK n C M S
theorem unitL_chk {r i:Nat} (hr:r≤64):chkRow (unitL r i)=0:=by
 refine small_chk (smallB_iff.2 fun z hz => ?_) (by simpa using hr)
 unfold unitL at hz
 rcases List.mem_or_eq_of_mem_set hz with h | h
 ·have:=(List.mem_replicate.1 h).2; omega
 ·omega
def SecT (n:Nat) (C M S:Mx):Prop := ∀ j (h:j<S.length),PreOK n C M (unitL M.length j) S[j]
theorem SecT.snoc {n:Nat} {C M S:Mx} {x:List Int} {i:Nat} (h:SecT n C M S) (hi:S.length=i) (hx:PreOK n C M (unitL M.length i) x):SecT n C M (S++[x]):=fun j hj=>by
 by_cases hlt:j<S.length
 ·rw [List.getElem_append_left hlt]; exact h j hlt
 ·have hje:j=i:=by simp at hj; omega
  subst hje
  rw [List.getElem_append_right (by omega)]
  simp only [hi,Nat.sub_self,List.getElem_cons_zero]
  exact hx
set_option maxHeartbeats 4000000 in
theorem gSection_ok {w:World} {P:List Int} {C M:Mx} {sp:Option Addr} {cp:Nat} {sc:Option Addr} {lc cc:Nat} {sm:Option Addr} {lm cm:Nat} (h:TmV w P C M M sp cp sc lc cc sm lm cm) (hL:Laid w) :
  Calls Tryz.prog 100 #[tmS P sp cp sc lc cc sm lm cm] w (SecFine w P.length C M):=by
 have hck:=fun W (hW:Ext w W)=>tCheck_any (h.ext hW) (hL.ext hW)
 rw [tmE_same] at hck
 have Hck:=Lib.hid hck
 have hml:lm=M.length:=by obtain ⟨_,_,_,_,_,e,_⟩:=h.hM; injection e
 subst hml
 obtain ⟨psM,hIM⟩:=h.ok.kM.1
 have hlM:=isH_len hIM
 have hp4:=h.ok.p4
 have hpr:=Lib.hid (fun W g i (hi:i<M.length) (hW:Ext w W) (hO:OwnV 3 0 W g M.length (is (unitL M.length i))) =>
  gpreimage_why (sx:=some ⟨g,0,none⟩) (nx:=M.length) (cx:=M.length) (h.ext hW) ⟨_,g,0,M.length,by rw [unitL_length],by rw [unitL_length]; exact Nat.le_refl _,hO.sl⟩ (unitL_length _ _) (unitL_chk (by omega)) (hL.ext hW))
 have hX:=(Ext.refl w).alloc (.cells #[.slice sp P.length cp,.slice sc lc cc,.slice sm M.length cm] 34)
 have x0:(w.alloc (.cells #[.slice sp P.length cp,.slice sc lc cc,.slice sm M.length cm] 34)).cell? ⟨w.heap.size,0,none⟩=some (.slice sp P.length cp):=by go_simp
 have x1:(w.alloc (.cells #[.slice sp P.length cp,.slice sc lc cc,.slice sm M.length cm] 34)).cell? ⟨w.heap.size,1,none⟩=some (.slice sc lc cc):=by go_simp
 have x2:(w.alloc (.cells #[.slice sp P.length cp,.slice sc lc cc,.slice sm M.length cm] 34)).cell? ⟨w.heap.size,2,none⟩=some (.slice sm M.length cm):=by go_simp
 have Hun:=Lib.hid (fun i (hi:i<M.length) x (h1:x.length=P.length) (h2:tmpL M x=unitL M.length i) (h3:redX C x=x) (h4 : ¬ smallB x=true)=>show False from h4 (smallB_iff.2 fun z hz=>by have:=h.ok.rep_unit h1 h3 hi h2 z hz; omega))
 clear h hL hck hIM
 go_enter Tryz.func100,Tryz.ntmps100
 go_wp2_with fail
 refine (Hck.out _ hX).mono ?_
 rintro e X1 ⟨rfl,hE1⟩
 replace x0:=hE1.cell x0
 replace x1:=hE1.cell x1
 replace x2:=hE1.cell x2
 have e1:=hX.trans hE1
 clear hX hE1 Hck
 go_wp2_with fail
 go_loopw [5,19] (fun out idx wr => ∃ (i:Nat) (S:Mx),i≤M.length∧idx = .int .i64 i∧Hid (MatO X1.heap.size wr out S)∧Hid (S.length=i∧SecT P.length C M S)∧Ext X1 wr) (fun _ idx _=>M.length-(intOf idx).toNat)
 case atStart=>exact ⟨0,[],by omega,by go_num,Lib.hid (MatO.nil _ _),Lib.hid ⟨rfl,fun j h=>by simp at h⟩,Ext.refl _⟩
 case round =>
  obtain ⟨i,S,hi,rfl,hO,hT,hE⟩:=hrel
  generalize wr=Y at *
  replace x0:=hE.cell x0
  replace x1:=hE.cell x1
  replace x2:=hE.cell x2
  have eY:=e1.trans hE
  by_cases hlt:i<M.length
  ·have hii:(i:Int)<(M.length:Int):=by omega
   have hun:=Lib.hid (rowUnit_ok (w:=Y) (n:=M.length) (i:=i) (by omega) hlt)
   go_wp2_with fail
   refine hun.out.mono ?_
   rintro e Y2 ⟨g,rfl,hU,hE2⟩
   replace x0:=hE2.cell x0
   replace x1:=hE2.cell x1
   replace x2:=hE2.cell x2
   have e2:=eY.trans hE2
   have hpr2:=Lib.hid (hpr.out _ g i hlt e2 (hU.mono (Nat.zero_le _)))
   have hE12:=hE.trans hE2
   clear hun hU
   go_wp2_with fail
   refine hpr2.out.mono ?_
   rintro e Y3 ⟨hE3,(⟨v,x,rfl,hv,hp⟩ | ⟨rfl,x,k1,k2,k3,k4⟩)⟩
   ·replace x0:=hE3.cell x0
    have hE13:=hE12.trans hE3
    have e3:=e2.trans hE3
    have hs2:=hE12.size
    have hs3:=hE13.size
    have hvs : ∃ s m c,v = .slice s m c:=by obtain ⟨a,_,_,k,e,_⟩:=hv.row; exact ⟨_,_,_,e⟩
    obtain ⟨va,vl,vk,rfl⟩:=hvs
    have Hv:=Lib.hid ((hv.mono hs2).ext ((Ext.refl Y3).alloc (.cells #[.slice va vl vk] 30)))
    have HO:=Lib.hid ((hO.out.ext (hE2.trans hE3)).ext ((Ext.refl Y3).alloc (.cells #[.slice va vl vk] 30)))
    have HT:=Lib.hid (hT.out.2.snoc hT.out.1 hp)
    have Hl:=Lib.hid hT.out.1
    clear hv hp hO hT hpr2
    go_wp2_with (at_builtin; refine app_mat rfl _ _ rfl rfl HO.out rfl (b:=Y3.heap.size) (r:=x) (by go_simp) Hv.out (by rw [Hl.out]; omega) (by simp; omega) ?_; intro gg cap2 w8 hO8 hB8 hG8; rw [Hl.out] at hO8 ⊢)
    have hE8:Ext X1 w8:=Ext.mk' (Below.trans (hE13.alloc (.cells #[.slice va vl vk] 30)) hB8)
    have HO8:=Lib.hid hO8
    clear hG8 hB8 hO8
    go_wp2_with fail
    go_roundw
    case rel=>exact ⟨i+1,S++[x],by omega,by go_num,HO8,Lib.hid ⟨by simp [Hl.out],HT.out⟩,hE8⟩
    case measure=>simp [intOf] <;> omega
   ·exact (Hun.out i hlt x k1 k2 k3 k4).elim
  ·obtain rfl:i=M.length:=by omega
   have Hq:=Lib.hid (show MatO w.heap.size Y u5 S∧SecOK P.length C M S from ⟨hO.out.mono e1.size,hT.out.1,fun j hj=>by
    have:=hT.out.2 j hj
    exact ⟨this.len,this.tmp,this.rep,this.sm⟩⟩)
   go_wp2_with fail
   go_ret2
   exact ⟨eY,_,S,rfl,Hq.out.1,Hq.out.2⟩
end Go.Proofs.YtjnpakablgommaaGreatDoor
