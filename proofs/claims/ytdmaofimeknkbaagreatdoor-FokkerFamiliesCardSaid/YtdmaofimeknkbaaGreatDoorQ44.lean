/- Part 44 of the proof of the claim: contracts of the functions that it reaches, and plain laws; no condition. -/
import Derived.Test.YtdmaofimeknkbaaGreatDoorQ39
import Derived.Test.YtdmaofimeknkbaaGreatDoorQ40
import Derived.Test.YtdmaofimeknkbaaGreatDoorQ43
import Derived.Test.YtdmaofimeknkbaaGreatDoorQ17
import Derived.Test.YtdmaofimeknkbaaGreatDoorQ14
set_option maxRecDepth 100000
set_option maxHeartbeats 20000000
namespace Go.Proofs.YtdmaofimeknkbaaGreatDoor
section
open Go.RowKit Go.Sort
open Lib (hid)
def Kgl:Mx:=[[2,3,5],[2,3],[2,3,7],[3,5,7],[2,5]]
def Xi (p:Int):List Int:=Kgl.getD (p%5).toNat []
theorem KoS (p:Int) (_h:0<=p):((Xi p).length=2\/(Xi p).length=3)/\KlP (Xi p):=by
 have hk:(p%5).toNat<5:=by omega
 unfold Xi;generalize (p%5).toNat=k at *
 rcases (show k=0\/k=1\/k=2\/k=3\/k=4 by omega) with rfl | rfl | rfl | rfl | rfl <;>
  exact ⟨by decide,⟨by intro x hx;simp [Kgl] at hx;unfold SmP;omega,by simp [Kgl];intro i h;rcases (show i=0\/i=1 by omega) with rfl | rfl<;>first | omega | simp⟩⟩
def Kcp (u:Nat->Nat->Int) (n i:Nat):List Int:=(List.range n).map λk=>(u i k).tmod 9
@[simp] theorem KcO (u:Nat->Nat->Int) (n i:Nat):(Kcp u n i).length=n:=by simp [Kcp]
def unM (u:Nat->Nat->Int) (n i:Nat):Mx:=(List.range i).map (Kcp u n)
@[simp] theorem Q1 (u:Nat->Nat->Int) (n i:Nat):(unM u n i).length=i:=by simp [unM]
theorem KeH (u:Nat->Nat->Int) (n i:Nat):unM u n i++[Kcp u n i]=unM u n (i+1):=by simp [unM,List.range_succ]
def ofL (o:Nat->Int) (i:Nat):List Rat:=(List.range i).map λt=>((o t:Int):Rat)/((12:Int):Rat)
@[simp] theorem K8 (o:Nat->Int) (i:Nat):(ofL o i).length=i:=by simp [ofL]
theorem Kna (o:Nat->Int) (i:Nat):ofL o i++[((o i:Int):Rat)/((12:Int):Rat)]=ofL o (i+1):=by simp [ofL,List.range_succ]
theorem KlG {u:Nat->Nat->Int} {n i k:Nat} (h:k<n):(Kcp u n i).take k++[(u i k).tmod 9]=(Kcp u n i).take (k+1):=by
 rw [List.take_succ_eq_append_getElem (show k<(Kcp u n i).length by simpa using h)];simp [Kcp]
theorem Kia (u:Nat->Nat->Int) (n i:Nat):Ku n (unM u n i):=λr hr=>by
 obtain ⟨t,_,rfl⟩:=List.mem_map.1 hr;simp
theorem KnP (u:Nat->Nat->Int) (n i:Nat) : ∀r∈unM u n i,∀z∈r,z.natAbs<=8:=λr hr z hz=>by
 obtain ⟨t,_,rfl⟩:=List.mem_map.1 hr;obtain ⟨k,_,rfl⟩:=List.mem_map.1 hz;have h1:=Int.natAbs_tmod (u t k) 9;have h2:(9:Int).natAbs=9:=rfl;rw [h2] at h1;omega
theorem KjY {o:Nat->Int} (ho : ∀i,-128<=o i/\o i<=127) {i:Nat} : ∀x∈ofL o i,-12<=x/\x<=12/\NdQ 100 x:=λx hx=>by
 obtain ⟨t,_,rfl⟩:=List.mem_map.1 hx;have h:=ho t;have h1:((-128:Int):Rat)<=((o t:Int):Rat):=Rat.intCast_le_intCast.2 h.1;have h2:((o t:Int):Rat)<=((127:Int):Rat):=Rat.intCast_le_intCast.2 h.2;have e1:((-128:Int):Rat) = -128:=rfl;have e2:((127:Int):Rat)=127:=rfl;have e3:((12:Int):Rat)=12:=rfl;rw [e1] at h1;rw [e2] at h2;refine ⟨by rw [e3];grind,by rw [e3];grind,?_⟩;exact NdQ.mk (Kbt (by omega)) (Nat.le_trans (Kv (E:=30) (by omega)) (by omega)) (Nat.le_trans (Kv (E:=30) (by omega)) (by omega))
theorem Kqa {o:Nat->Int} (ho : ∀i,-128<=o i/\o i<=127) (i j:Nat) : -12<=QQ (ofL o i) j/\QQ (ofL o i) j<=12:=by
 unfold QQ;split
 ·constructor<;>decide
 ·rw [List.getD_eq_getElem?_getD]
  by_cases h:j-1<(ofL o i).length
  ·rw [List.getElem?_eq_getElem h];have:=KjY ho (i:=i) _ (List.getElem_mem h);exact ⟨this.1,this.2.1⟩
  ·rw [List.getElem?_eq_none (by omega)];show -12<=(0:Rat)/\(0:Rat)<=12;constructor<;>decide
theorem Kq3 {W:World} {b:Nat} {x y:Int} (c0:W.cell? ⟨b,0,none⟩=some (.int .i64 x)) (c1:W.cell? ⟨b,1,none⟩=some (.int .i64 y)):KT W (.slice (some ⟨b,0,none⟩) 2 2) [x,y] :=
 ⟨_,b,0,2,rfl,Nat.le_refl _,λ_=>rfl,λi v hv=>by
  match i,hv with
  | 0,hv=>simp [is] at hv;rw [<-hv];exact c0
  | 1,hv=>simp [is] at hv;rw [<-hv];exact c1
  | i+2,hv=>simp [is] at hv⟩
structure PlC (w:World) (b:Nat) (p:Int) (u:Nat->Nat->Int) (o:Nat->Int):Prop where
 p:w.cell? ⟨b,0,none⟩=some (.int .u8 p)
 u : ∀i k,i<2->k<3->w.cell? ⟨b,1+i*3+k,none⟩=some (.int .i8 (u i k))
 o : ∀i,i<2->w.cell? ⟨b,7+i,none⟩=some (.int .i8 (o i))
theorem PlC.ext {w w':World} {b:Nat} {p:Int} {u:Nat->Nat->Int} {o:Nat->Int} (h:PlC w b p u o) (he:Ext w w'):PlC w' b p u o :=
 ⟨he.cell h.p,λi k a b=>he.cell (h.u i k a b),λi a=>he.cell (h.o i a)⟩
section
variable {w:World} {ops:Array Oper} {o:Oper} {a:Act} {K:Act->World->Prop} {Q:Exit->Act->World->Prop} {E:Prop}
theorem Ja (hgd:o.guard=none) (s x:Operand) (ho:o.op = .call { callee := .builtin .append,args := #[s,x],argTypes := #[31,31] })
  {B:Nat} {v rv:Value} {F:Mx} {r:List Int} (hs:a.eval s=v) (hown:Qk B w v F) {b:Nat} (hx:a.eval x = .slice (some ⟨b,0,none⟩) 1 1) (hc:w.cell? ⟨b,0,none⟩=some rv) (hr:KH B w rv r) (hl:F.length<=1000000000) (hB:B<=w.heap.size)
  (h : ∀g cap w',Qk B w' (slv g (F.length+1) cap) (F++[r])->Below B w w'->w.grownBy w' v.ownBlock->K (a.put o.dst (slv g (F.length+1) cap)) w'):if Region.wanted o (yielded ops a.tmps)=true then Oper.wp Tryz.prog o a w K Q else E:=by
 have hw:Region.wanted o (yielded ops a.tmps)=true:=by simp [Region.wanted,hgd]
 rw [if_pos hw];obtain ⟨i0,hi,hz0,hz1,hz2⟩:=info_parts Tryz.infoRow;obtain ⟨vs,h1,h2,h3⟩:=hown;refine wp_append_lies w s x 31 ho B 38 i0 _ 1 24 Tryz.underlying31 hi hz0 hz1 hz2 rfl (by omega) v F.length vs hs h2 ⟨b,0,none⟩ 1 1 [rv] hx rfl ?_ ?_ (by omega) (by unfold maxLen;omega) (by omega) hB w.heap.size rfl ?_
 ·intro j u hj;have:j=0:=by have:=(List.getElem?_eq_some_iff.1 hj).1;simp at this;omega
  subst this;simp only [List.getElem?_cons_zero,Option.some.injEq] at hj;subst hj;simpa [Addr.add_lit] using hc
 ·intro u hu;simp only [List.mem_cons,List.not_mem_nil,or_false] at hu;subst hu;exact hr.one
 ·intro g cap w' k1 k2 k3 k4;have hkeep : ∀{u:Value} {l:List Int},KH B w u l->KH B w' u l:=λhu=>Ks hu h2 (by decide) k2
  refine h g cap w' ⟨vs++[rv],by simp [h1],?_,λt ht ht' => ?_⟩ (Below.grown (Below.refl _ _) k2 hB (λq hq=>(World.ownsRow.lt h2 q hq).1)) k2
  ·rw [List.length_append];exact k1
  ·rcases Nat.lt_or_ge t F.length with hlt | hge
   ·rw [List.getElem_append_left (by omega),List.getElem_append_left hlt];exact hkeep (h3 t hlt (by omega))
   ·have hte:t=F.length:=by simp at ht;omega
    subst hte;rw [List.getElem_append_right (by omega),List.getElem_append_right (by omega)];simp only [h1,Nat.sub_self,List.getElem_cons_zero];exact hkeep hr
end
theorem mkS {w:World} {b5 b9 B B':Nat} {lv vu vo x y:Value} (h:Kd 34 B w b5 3 [lv,vu,vo]) (k:Kd 47 B' w b9 2 [x,y]):w.cell? ⟨b5,1,none⟩=some vu/\w.cell? ⟨b5,2,none⟩=some vo/\w.cell? ⟨b9,0,none⟩=some x/\w.cell? ⟨b9,1,none⟩=some y:=by
 obtain ⟨_,h1,h2⟩:=Xk h;obtain ⟨k0,k1,_,_⟩:=Ky k;exact ⟨h1,h2,k0,k1⟩
theorem Zk {B B':Nat} {w w':World} {T:TypeId} {size n:Nat} {u v:Value} {xs:List Value} {F:Mx} (h:w.ownsRow B T size u n xs) (hm:Qk B' w v F) (hT:T≠38) (_:T≠3) (hg:w.grownBy w' v.ownBlock):w'.ownsRow B T size u n xs:=by
 obtain ⟨vs,_,h2,_⟩:=hm;exact Ks h h2 hT hg
theorem Kb1 {B B':Nat} {w w':World} {v s:Value} {F:Mx} {l:List Rat} (h:Qk B w v F) (hS:SzV B' w s l) (hg:w.grownBy w' s.ownBlock):Qk B w' v F:=by
 obtain ⟨vs,h1,h2,h3⟩:=h;exact ⟨vs,h1,Ks h2 hS (by decide) hg,λt a b=>Ks (h3 t a b) hS (by decide) hg⟩
theorem KdO {B B' b:Nat} {w w':World} {s:Value} {l:List Rat} {xs:List Value} (h:Kd 47 B w b 2 xs) (_:SzV B' w s l) (hne:s.ownBlock≠some b) (hg:w.grownBy w' s.ownBlock):Kd 47 B w' b 2 xs :=
 World.ownsRow.kept h hg (.inr (λe=>hne (by rw [<-e];rfl)))
def Kjs (w:World) (p:Int) (u:Nat->Nat->Int) (o:Nat->Int) (e:Ending) (w':World):Prop :=
 ∃(cp cu gm:Nat) (sp:Option Addr) (vo:Value) (f:Bool),e = .returned (.tuple #[bkv (Xi p).length cp ((Xi p).length-1) cu gm sp vo,.bool f])/\(∃so no co,vo = .slice so no co)/\Ext w w'
  /\ (f=true->FkB w' (Xi p).length cp ((Xi p).length-1) cu gm sp vo (Xi p) (unM u (Xi p).length ((Xi p).length-1)) (ofL o ((Xi p).length-1)) (ZZ (Xi p).length (unM u (Xi p).length ((Xi p).length-1)))/\SzV w.heap.size w' vo (ofL o ((Xi p).length-1))/\Qk w.heap.size w' (.slice (some ⟨gm,0,none⟩) ((Xi p).length-1) cu) (unM u (Xi p).length ((Xi p).length-1)))
abbrev plv (p:Int) (u:Nat->Nat->Int) (o:Nat->Int):Value := .agg #[.int .u8 p,.int .i8 (u 0 0),.int .i8 (u 0 1),.int .i8 (u 0 2),.int .i8 (u 1 0),.int .i8 (u 1 1),.int .i8 (u 1 2),.int .i8 (o 0),.int .i8 (o 1)]
theorem KiO {w:World} {p:Int} {u:Nat->Nat->Int} {o:Nat->Int} (hp:0<=p/\p<=255) (hu : ∀i k,-128<=u i k/\u i k<=127) (ho : ∀i,-128<=o i/\o i<=127) (hL:Laid w) :
  Calls Tryz.prog 4 #[plv p u o] w (Kjs w p u o):=by
 have HL:=hid hL;have Hu:=hid hu;have Ho:=hid ho;have Hpk:=hid (KoS p hp.1);obtain ⟨hp1,hp2⟩:=hp;obtain ⟨k,hk⟩ : ∃k:Nat,p%5=(k:Int):=⟨(p%5).toNat,by omega⟩
 have hk5:k<5:=by omega
 have Hpr:=hid (show Xi p=Kgl.getD k [] by unfold Xi;rw [hk];rfl);clear hL hu ho
 go_enter Tryz.func4,Tryz.ntmps4
 go_upto_region 1 with fail;generalize hW:World.alloc (World.alloc w _) _=W at *;have EW:Ext w W:=by rw [<-hW];exact ((Ext.refl w).alloc _).alloc _
 have HC:Hid (PlC W w.heap.size p u o):=hid ⟨by rw [<-hW];clear hW;go_simp,λi k hi hk=>by
  rw [<-hW];clear hW
  rcases (show i=0\/i=1 by omega) with rfl | rfl<;>rcases (show k=0\/k=1\/k=2 by omega) with rfl | rfl | rfl<;>go_simp,λi hi=>by
  rw [<-hW];clear hW
  rcases (show i=0\/i=1 by omega) with rfl | rfl<;>go_simp⟩
 have HB2:=hid (show Kd 34 w.heap.size W (w.heap.size+1) 3 [.slice none 0 0,.slice none 0 0,.slice none 0 0] from by
  rw [<-hW];have h:=KcV (w.alloc (.cells #[.int .u8 p,.int .i8 (u 0 0),.int .i8 (u 0 1),.int .i8 (u 0 2),.int .i8 (u 1 0),.int .i8 (u 1 1),.int .i8 (u 1 2),.int .i8 (o 0),.int .i8 (o 1)] 27)) 34 (.slice none 0 0) (.slice none 0 0) (.slice none 0 0);rw [show (w.alloc (.cells #[.int .u8 p,.int .i8 (u 0 0),.int .i8 (u 0 1),.int .i8 (u 0 2),.int .i8 (u 1 0),.int .i8 (u 1 1),.int .i8 (u 1 2),.int .i8 (o 0),.int .i8 (o 1)] 27)).heap.size=w.heap.size+1 by simp] at h
  exact h.mono (by omega))
 have c0:=HC.out.p;obtain ⟨b,hb⟩ : ∃b,b=w.heap.size:=⟨_,rfl⟩
 rw [<-hb] at HC c0 ⊢;obtain ⟨b2,hb2⟩ : ∃b2,b2=w.heap.size+1:=⟨_,rfl⟩
 rw [<-hb2] at HB2;rw [show b+1=b2 by omega];have hbw:w.heap.size<=b2:=by omega
 have hb2W:b2<W.heap.size:=HB2.out.lt.2;have hbW:b<W.heap.size:=World.block_lt_of_cell? _ _ c0;clear hW hb hb2
 go_cut [4] from 13 to 24 (λlv wx => ∃(g n:Nat),lv=slv g n n/\W.heap.size<=g/\n=(Xi p).length/\Hid (KT wx (slv g n n) (Xi p))/\Ext W wx)
 case first =>
  have c0a:=Ext.cell (((((((Ext.refl W).alloc (.cells #[.int .i64 2,.int .i64 3,.int .i64 5] 3)).alloc (.cells #[.int .i64 2,.int .i64 3] 3)).alloc (.cells #[.int .i64 2,.int .i64 3,.int .i64 7] 3)).alloc (.cells #[.int .i64 3,.int .i64 5,.int .i64 7] 3)).alloc (.cells #[.int .i64 2,.int .i64 5] 3)).alloc (.cells #[.slice (some ⟨W.heap.size,0,none⟩) 3 3,.slice (some ⟨W.heap.size+1,0,none⟩) 2 2,.slice (some ⟨W.heap.size+1+1,0,none⟩) 3 3,.slice (some ⟨W.heap.size+1+1+1,0,none⟩) 3 3,.slice (some ⟨W.heap.size+1+1+1+1,0,none⟩) 2 2] 29)) c0
  rcases (show k=0\/k=1\/k=2\/k=3\/k=4 by omega) with rfl | rfl | rfl | rfl | rfl
  all_goals
   go_wp2_with fail;go_meet;refine ⟨_,_,rfl,by omega,by rw [Hpr.out];rfl,hid ?_,((((((Ext.refl W).alloc _).alloc _).alloc _).alloc _).alloc _).alloc _⟩;rw [Hpr.out]
   first
   | exact Kfm (by go_simp) (by go_simp) (by go_simp)
   | exact Kq3 (by go_simp) (by go_simp)
 case rest =>
  obtain ⟨g,n,rfl,hgW,hn,hP,hE0⟩:=hcut;have hgb2:g≠b2:=by omega
  generalize wc=Y at *;have Hn:=hid hn;have hn23:=Hpk.out.1;rw [<-hn] at hn23;have hn3:n<=3:=by omega
  have hn2:2<=n:=by omega
  have HC1:=hid (HC.out.ext hE0);have HB1:=hid (HB2.out.ext hE0);have EY:=EW.trans hE0;have H5:=hid (KcV Y 34 (slv g n n) (.slice none 0 0) (.slice none 0 0));have hY2:b2<Y.heap.size:=HB1.out.lt.2;have eA:Ext Y (Y.alloc (.cells #[slv g n n,.slice none 0 0,.slice none 0 0] 34)):=(Ext.refl Y).alloc _;have eY1:Ext Y (Y.alloc (.cells #[slv g n n,.slice none 0 0,.slice none 0 0] 34)):=eA;have hYw:=EY.size;clear hn HC HB2 EW hE0 c0 eA;go_upto_region 3 with fail;generalize Y.alloc (.cells #[slv g n n,.slice none 0 0,.slice none 0 0] _)=Y1 at *;obtain ⟨b5,hb5⟩ : ∃b5,b5=Y.heap.size:=⟨_,rfl⟩
  have hb5Y0:Y.heap.size<=b5:=by omega
  have hYY1:Y.heap.size<=Y1.heap.size:=eY1.size;rw [<-hb5] at H5 ⊢;clear hb5;have hb5Y:b5<Y1.heap.size:=H5.out.lt.2;have H5':=hid (H5.out.mono (B':=w.heap.size) (by omega));clear H5;go_wp2_with fail
  go_loopw [6] (λiv wr => ∃(i:Nat) (vu vo:Value),i+1<=n/\iv = .int .i64 i/\Hid (Kd 34 w.heap.size wr b5 3 [slv g n n,vu,vo])/\Hid (Qk Y1.heap.size wr vu (unM u n i))/\Hid (SzV Y1.heap.size wr vo (ofL o i))/\Ext Y wr/\Hid (KaN Y1.heap.size wr)) (λiv _=>n-(intOf iv).toNat)
  case atStart=>exact ⟨0,_,_,by omega,by go_num,H5',hid (Qk.nil _ _),hid (SzV.nil _ _),eY1,hid (show KaN Y1.heap.size Y1 from Nat.le_refl _)⟩
  case round =>
   clear H5' eY1;obtain ⟨i,vu,vo,hi,rfl,h5,hMu,hSo,hE,hs⟩:=hrel;generalize wr=X at *;have hs0:Y1.heap.size<=X.heap.size:=hs.out
   by_cases hin:i+1<n
   ·have hii:(i:Int)+1<(n:Int):=by omega
    have hi2:(i:Int)<2:=by omega
    have hi2n:i<2:=by omega
    go_wp2_with fail
    go_loopw [7,8] (λxv kv wr => ∃k:Nat,k<=n/\kv = .int .i64 k/\Hid (KH X.heap.size wr xv ((Kcp u n i).take k))/\Ext X wr) (λ_ kv _=>n-(intOf kv).toNat)
    case atStart=>exact ⟨0,by omega,by go_num,hid (KH.nil _ _),Ext.refl _⟩
    case round =>
     obtain ⟨k',hk',rfl,hx,hEx⟩:=hrel;generalize wr=Z at *
     by_cases hkn:k'<n
     ·have hki:(k':Int)<(n:Int):=by omega
      have hk3:(k':Int)<3:=by omega
      have z0:=hEx.cell (hE.cell (HC1.out.u i k' hi2n (by omega)));have zb:=Hu.out i k';have Hsn:=hid (KlG (u:=u) (n:=n) (i:=i) hkn);obtain ⟨z,hz⟩ : ∃z,z=u i k':=⟨_,rfl⟩
      rw [<-hz] at z0 zb Hsn;have hrb:=Int.natAbs_tmod z 9;rw [show (9:Int).natAbs=9 from rfl] at hrb;obtain ⟨r,hr⟩ : ∃r,z.tmod 9=r:=⟨_,rfl⟩
      rw [hr] at hrb Hsn;have hwr:IntKind.i64.wrap r=r:=IntWalk.i64_in _ (by omega);have hwz:IntKind.i64.wrap z=z:=IntWalk.i64_in _ (by omega);have Hil:=hid (show ((Kcp u n i).take k').length=k' by rw [List.length_take,KcO];omega);have hZs:=hEx.size;clear hz hrb;go_wp2_with (at_builtin;refine Y9 rfl _ _ 38 Tryz.underlying38 rfl rfl (hx.out.ext ((Ext.refl _).alloc _)) rfl (b:=Z.heap.size) (z:=r) (by go_simp) (by rw [Hil.out];omega) (by simp;omega) ?_;intro gg cap2 w8 hO8 hB8 hG8;rw [Hil.out] at hO8 ⊢;rw [Hsn.out] at hO8)
      have hE8:Ext X w8:=Below.trans (hEx.alloc _) hB8;have HO8:=hid hO8;clear hG8 hB8 hO8;go_wp2_with fail;go_roundw
      case rel=>exact ⟨k'+1,by omega,by go_num,HO8,hE8⟩
      case measure=>simp [intOf]<;>omega
     ·obtain rfl:n=k':=by omega
      have hx2:=hx.out;rw [List.take_of_length_le (by simp)] at hx2;obtain ⟨gx,cx,hxe⟩:=hx2.shapeQ;rw [KcO] at hxe;subst hxe;have HX:=hid hx2;have o0:=hEx.cell (hE.cell (HC1.out.o i hi2n));have hEZ:=hE.trans hEx;have hof:=hid (Kc8 (n:=o i) (d:=12) (by have:=Ho.out i;omega) (by omega) (by omega) (w:=Z) (HL.out.ext (EY.trans hEZ)));obtain ⟨q1,q2⟩:=Kd7 (Kbt (n:=o i) (d:=12) (by omega));rw [q1,q2] at hof;have Hsno:=hid (Kna o i);obtain ⟨r,hr⟩ : ∃r,r=((o i:Int):Rat)/((12:Int):Rat):=⟨_,rfl⟩
      rw [<-hr] at hof Hsno;have ob:=Ho.out i;obtain ⟨oz,hoz⟩ : ∃oz,oz=o i:=⟨_,rfl⟩
      rw [<-hoz] at o0 hof ob;have hwo:IntKind.i64.wrap oz=oz:=IntWalk.i64_in _ (by omega);have h5Z:=hid (h5.out.ext hEx);have hMZ:=hid (hMu.out.ext hEx);have hSZ:=hid (hSo.out.ext hEx);have hsZ:=hid (Nat.le_trans hs0 hEx.size);clear hx hx2 q1 q2 hr hoz h5 hMu hSo hs;go_wp2_with fail;refine hof.out.mono ?_;rintro e Z1 ⟨rfl,hEf⟩;have eA:Ext Z1 (Z1.alloc (.cells #[I r.num,I r.den] 47)):=(Ext.refl Z1).alloc _;have HR:=hid (Zg Z1 (I r.num) (I r.den));have eF:=hEf.trans eA;have h5a:=hid (h5Z.out.ext eF);have hMa:=hid (hMZ.out.ext eF);have hSa:=hid (hSZ.out.ext eF);have hsa:=hid (Nat.le_trans hsZ.out eF.size);have HXa:=hid ((HX.out.ext eF).mono hs0);have hEa:=hEZ.trans eF;go_upto_region 12 with fail;generalize Z1.alloc (.cells #[I r.num,I r.den] _)=Z2 at *;obtain ⟨b9,hb9⟩ : ∃b9,b9=Z1.heap.size:=⟨_,rfl⟩
      have hb9z:Z.heap.size<=b9:=by have:=hEf.size;omega
      rw [<-hb9] at HR ⊢;clear hb9;have d0:Ext Z2 Z2.drew:=(Ext.refl Z2).drew;refine Ke (S:=λW=>W.cell? ⟨b5,1,none⟩=some vu/\W.cell? ⟨b5,2,none⟩=some vo/\W.cell? ⟨b9,0,none⟩=some (I r.num)/\W.cell? ⟨b9,1,none⟩=some (I r.den)) 11 (by kernel_rfl) (by simp) ?_;intro inv;generalize Z2.drew=W at *;have h5:=hid (h5a.out.ext d0);have hM:=hid (hMa.out.ext d0);have hS:=hid (hSa.out.ext d0);have hX:=hid (HXa.out.ext d0)
      have hRne:vo.ownBlock≠some b9:=λe=>by
       have h1:=World.ownsRow.lt hSa.out b9 e;have h2:=World.ownsRow.lt hSZ.out b9 e;omega
      have hR:=hid (HR.out.ext d0);have hEw:=hEa.trans d0;have hsz:Y1.heap.size<=W.heap.size:=Nat.le_trans hsa.out d0.size;clear h5a hMa hSa hsa HXa hEa HR d0;have hst:=mkS h5.out hR.out;refine tkS (i:=0) (v := .pointer (some ⟨b5,1,none⟩)) rfl hst inv ?_;intro inv;go_simp;refine tkA (i:=1) (v:=vu) rfl (.inl ⟨by rfl,λW hW=>by have z0:=hW.1;go_simp⟩) hst inv ?_;intro inv;go_simp;refine tkS (i:=2) (v := .slice gx n cx) rfl hst inv ?_;intro inv;go_simp;refine tkS (i:=5) (v := .pointer (some ⟨b5,2,none⟩)) rfl hst inv ?_;intro inv;go_simp;refine tkA (i:=6) (v:=vo) rfl (.inl ⟨by rfl,λW hW=>by have z0:=hW.2.1;go_simp⟩) hst inv ?_;intro inv;go_simp;refine tkA (i:=7) (v:=RV r) rfl (.inl ⟨by rfl,λW hW=>by have z0:=hW.2.2.1;have z1:=hW.2.2.2;go_simp⟩) hst inv ?_;intro inv;go_simp;refine KZ (i:=3) (j:=8) rfl rfl (by kernel_rfl) inv (λinv K1 hK1 => ?_) (λinv K1 hK1 => ?_)
      ·skip
       go_simp;have ea:Ext W (W.alloc (.cells #[.slice gx n cx] 38)):=(Ext.refl W).alloc _;have k1:Hid ((W.alloc (.cells #[.slice gx n cx] 38)).cell? ⟨W.heap.size,0,none⟩=some (.slice gx n cx)):=hid (by go_simp);obtain ⟨p1,hp1⟩ : ∃p1,p1=W.heap.size:=⟨_,rfl⟩
       replace h5:=hid (h5.out.ext ea);replace hM:=hid (hM.out.ext ea);replace hS:=hid (hS.out.ext ea)
       (try replace hX:=hid (hX.out.ext ea))
       replace hR:=hid (hR.out.ext ea);replace hEw:=hEw.trans ea;replace hsz:Y1.heap.size<=(W.alloc (.cells #[.slice gx n cx] 38)).heap.size:=Nat.le_trans hsz ea.size
       (try replace k2:=hid (k2.out.ext ea))
       refine hK1 _ _ (mkS h5.out hR.out) ?_;clear hK1;rw [<-hp1] at k1 ⊢;clear hp1 ea;generalize W.alloc (.cells #[.slice gx n cx] 38)=W at *;refine KZ (i:=4) (j:=8) rfl rfl (by kernel_rfl) inv (λinv K1 hK1 => ?_) (λinv K1 hK1 => ?_)
       ·skip
        refine Ja rfl _ _ rfl rfl hM.out rfl (b:=p1) (rv := .slice gx n cx) (r:=Kcp u n i) k1.out hX.out (by rw [Q1];omega) hsz ?_;intro gm cm W8 hO8 hB8 hG8;rw [Q1] at hO8 ⊢;rw [KeH] at hO8;replace h5:Hid (Kd 34 w.heap.size W8 b5 3 [slv g n n,vu,vo]):=hid (Zk h5.out hM.out (by decide) (by decide) hG8);replace hS:Hid (SzV Y1.heap.size W8 vo (ofL o i)):=hid (Zk hS.out hM.out (by decide) (by decide) hG8);replace hR:Hid (Kd 47 b9 W8 b9 2 [I r.num,I r.den]):=hid (Zk hR.out hM.out (by decide) (by decide) hG8)
        (try replace k2:Hid (Kd 47 p2 W8 p2 2 [I r.num,I r.den]):=hid (Zk k2.out hM.out (by decide) (by decide) hG8))
        replace hM:=hid hO8;replace hEw:Ext Y W8:=Below.trans hEw (hB8.mono hYY1);replace hsz:Y1.heap.size<=W8.heap.size:=Nat.le_trans hsz hB8.size;refine hK1 _ _ (mkS h5.out hR.out) ?_;clear hK1 hO8 hB8 hG8 k1 hX;generalize W8=W at *;have hst:=mkS h5.out hR.out;refine tkS (i:=10) (v := .pointer (some ⟨b5,1,none⟩)) rfl hst inv ?_;intro inv;go_simp;refine Kf (i:=8) rfl (by kernel_rfl) inv (λinv K1 hK1 => ?_);go_simp;have ea:Ext W (W.alloc (.cells #[I r.num,I r.den] 47)):=(Ext.refl W).alloc _;have k2:=hid (Zg W (I r.num) (I r.den));obtain ⟨p2,hp2⟩ : ∃p2,p2=W.heap.size:=⟨_,rfl⟩
        replace h5:=hid (h5.out.ext ea);replace hM:=hid (hM.out.ext ea);replace hS:=hid (hS.out.ext ea)
        (try replace hX:=hid (hX.out.ext ea))
        replace hR:=hid (hR.out.ext ea);replace hEw:=hEw.trans ea;replace hsz:Y1.heap.size<=(W.alloc (.cells #[I r.num,I r.den] 47)).heap.size:=Nat.le_trans hsz ea.size
        (try replace k1:=hid (ea.cell k1.out))
        refine hK1 _ _ (mkS h5.out hR.out) ?_;clear hK1;rw [<-hp2] at k2 ⊢;clear hp2 ea;generalize W.alloc (.cells #[I r.num,I r.den] 47)=W at *;refine Kf (i:=9) rfl (by kernel_rfl) inv (λinv K1 hK1 => ?_);obtain ⟨t0,t1,_,_⟩:=Ky k2.out;refine ZK rfl _ _ 32 Tryz.underlying32 rfl rfl hS.out (b:=p2) rfl (r:=r) t0 t1 (by rw [K8];omega) hsz ?_;intro gr cr W8 hO8 hB8 hG8 _;rw [K8];rw [Hsno.out] at hO8;replace h5:Hid (Kd 34 w.heap.size W8 b5 3 [slv g n n,vu,vo]):=hid (Ks h5.out hS.out (by decide) hG8);replace hR:=hid (KdO hR.out hS.out hRne hG8);replace hM:=hid (Kb1 hM.out hS.out hG8);replace hS:=hid (show SzV Y1.heap.size W8 (slv gr (i+1) cr) (ofL o (i+1)) from by have:=hO8;unfold OwQ at this;rw [K8] at this;unfold SzV;rw [K8];exact this);replace hEw:Ext Y W8:=Below.trans hEw (hB8.mono hYY1);replace hsz:Y1.heap.size<=W8.heap.size:=Nat.le_trans hsz hB8.size;refine hK1 _ _ (mkS h5.out hR.out) ?_;clear hK1 hO8 hB8 hG8 k2 t0 t1;generalize W8=W at *;refine Ki (by kernel_rfl) ?_;obtain ⟨s1,g1⟩:=h5.out.set 1 (slv gm (i+1) cm);obtain ⟨s2,g2⟩:=s1.set 2 (slv gr (i+1) cr);have hG:=Kg g1 g2;have hf1:=h5.out.frozen 1;have hf2:=h5.out.frozen 2;obtain ⟨z1,z2,_,_⟩:=mkS h5.out hR.out;have h5':=hid (show Kd 34 w.heap.size ((W.setCell ⟨b5,1,none⟩ (slv gm (i+1) cm)).setCell ⟨b5,2,none⟩ (slv gr (i+1) cr)) b5 3 [slv g n n,slv gm (i+1) cm,slv gr (i+1) cr] from s2)
        have hM':=hid (Zn hM.out h5.out (by decide) (by decide) hG);have hS':=hid (show SzV Y1.heap.size ((W.setCell ⟨b5,1,none⟩ (slv gm (i+1) cm)).setCell ⟨b5,2,none⟩ (slv gr (i+1) cr)) (slv gr (i+1) cr) (ofL o (i+1)) from Ks hS.out h5.out (by decide) hG);have hE':=hid (Kb hEw hG hb5Y0);have hs':=hid (show KaN Y1.heap.size ((W.setCell ⟨b5,1,none⟩ (slv gm (i+1) cm)).setCell ⟨b5,2,none⟩ (slv gr (i+1) cr)) from Nat.le_trans hsz hG.size);clear s1 s2 g1 g2 hG h5 hM hS hR hEw hsz;go_wp2_with fail;go_roundw
        case rel=>exact ⟨i+1,_,_,by omega,by go_num,h5',hM',hS',hE'.out,hs'⟩
        case measure=>simp [intOf]<;>omega
       ·skip
        go_simp;have ea:Ext W (W.alloc (.cells #[I r.num,I r.den] 47)):=(Ext.refl W).alloc _;have k2:=hid (Zg W (I r.num) (I r.den));obtain ⟨p2,hp2⟩ : ∃p2,p2=W.heap.size:=⟨_,rfl⟩
        replace h5:=hid (h5.out.ext ea);replace hM:=hid (hM.out.ext ea);replace hS:=hid (hS.out.ext ea)
        (try replace hX:=hid (hX.out.ext ea))
        replace hR:=hid (hR.out.ext ea);replace hEw:=hEw.trans ea;replace hsz:Y1.heap.size<=(W.alloc (.cells #[I r.num,I r.den] 47)).heap.size:=Nat.le_trans hsz ea.size
        (try replace k1:=hid (ea.cell k1.out))
        refine hK1 _ _ (mkS h5.out hR.out) ?_;clear hK1;rw [<-hp2] at k2 ⊢;clear hp2 ea;generalize W.alloc (.cells #[I r.num,I r.den] 47)=W at *;refine Kf (i:=4) rfl (by kernel_rfl) inv (λinv K1 hK1 => ?_);refine Ja rfl _ _ rfl rfl hM.out rfl (b:=p1) (rv := .slice gx n cx) (r:=Kcp u n i) k1.out hX.out (by rw [Q1];omega) hsz ?_;intro gm cm W8 hO8 hB8 hG8;rw [Q1] at hO8 ⊢;rw [KeH] at hO8;replace h5:Hid (Kd 34 w.heap.size W8 b5 3 [slv g n n,vu,vo]):=hid (Zk h5.out hM.out (by decide) (by decide) hG8);replace hS:Hid (SzV Y1.heap.size W8 vo (ofL o i)):=hid (Zk hS.out hM.out (by decide) (by decide) hG8);replace hR:Hid (Kd 47 b9 W8 b9 2 [I r.num,I r.den]):=hid (Zk hR.out hM.out (by decide) (by decide) hG8)
        (try replace k2:Hid (Kd 47 p2 W8 p2 2 [I r.num,I r.den]):=hid (Zk k2.out hM.out (by decide) (by decide) hG8))
        replace hM:=hid hO8;replace hEw:Ext Y W8:=Below.trans hEw (hB8.mono hYY1);replace hsz:Y1.heap.size<=W8.heap.size:=Nat.le_trans hsz hB8.size;refine hK1 _ _ (mkS h5.out hR.out) ?_;clear hK1 hO8 hB8 hG8 k1 hX;generalize W8=W at *;have hst:=mkS h5.out hR.out;refine tkS (i:=10) (v := .pointer (some ⟨b5,1,none⟩)) rfl hst inv ?_;intro inv;go_simp;refine Kf (i:=9) rfl (by kernel_rfl) inv (λinv K1 hK1 => ?_);obtain ⟨t0,t1,_,_⟩:=Ky k2.out;refine ZK rfl _ _ 32 Tryz.underlying32 rfl rfl hS.out (b:=p2) rfl (r:=r) t0 t1 (by rw [K8];omega) hsz ?_;intro gr cr W8 hO8 hB8 hG8 _;rw [K8];rw [Hsno.out] at hO8;replace h5:Hid (Kd 34 w.heap.size W8 b5 3 [slv g n n,vu,vo]):=hid (Ks h5.out hS.out (by decide) hG8);replace hR:=hid (KdO hR.out hS.out hRne hG8);replace hM:=hid (Kb1 hM.out hS.out hG8);replace hS:=hid (show SzV Y1.heap.size W8 (slv gr (i+1) cr) (ofL o (i+1)) from by have:=hO8;unfold OwQ at this;rw [K8] at this;unfold SzV;rw [K8];exact this);replace hEw:Ext Y W8:=Below.trans hEw (hB8.mono hYY1);replace hsz:Y1.heap.size<=W8.heap.size:=Nat.le_trans hsz hB8.size;refine hK1 _ _ (mkS h5.out hR.out) ?_;clear hK1 hO8 hB8 hG8 k2 t0 t1;generalize W8=W at *;refine Ki (by kernel_rfl) ?_;obtain ⟨s1,g1⟩:=h5.out.set 1 (slv gm (i+1) cm);obtain ⟨s2,g2⟩:=s1.set 2 (slv gr (i+1) cr);have hG:=Kg g1 g2;have hf1:=h5.out.frozen 1;have hf2:=h5.out.frozen 2;obtain ⟨z1,z2,_,_⟩:=mkS h5.out hR.out
        have h5':=hid (show Kd 34 w.heap.size ((W.setCell ⟨b5,1,none⟩ (slv gm (i+1) cm)).setCell ⟨b5,2,none⟩ (slv gr (i+1) cr)) b5 3 [slv g n n,slv gm (i+1) cm,slv gr (i+1) cr] from s2);have hM':=hid (Zn hM.out h5.out (by decide) (by decide) hG);have hS':=hid (show SzV Y1.heap.size ((W.setCell ⟨b5,1,none⟩ (slv gm (i+1) cm)).setCell ⟨b5,2,none⟩ (slv gr (i+1) cr)) (slv gr (i+1) cr) (ofL o (i+1)) from Ks hS.out h5.out (by decide) hG);have hE':=hid (Kb hEw hG hb5Y0);have hs':=hid (show KaN Y1.heap.size ((W.setCell ⟨b5,1,none⟩ (slv gm (i+1) cm)).setCell ⟨b5,2,none⟩ (slv gr (i+1) cr)) from Nat.le_trans hsz hG.size);clear s1 s2 g1 g2 hG h5 hM hS hR hEw hsz;go_wp2_with fail;go_roundw
        case rel=>exact ⟨i+1,_,_,by omega,by go_num,h5',hM',hS',hE'.out,hs'⟩
        case measure=>simp [intOf]<;>omega
      ·skip
       go_simp;have ea:Ext W (W.alloc (.cells #[I r.num,I r.den] 47)):=(Ext.refl W).alloc _;have k2:=hid (Zg W (I r.num) (I r.den));obtain ⟨p2,hp2⟩ : ∃p2,p2=W.heap.size:=⟨_,rfl⟩
       replace h5:=hid (h5.out.ext ea);replace hM:=hid (hM.out.ext ea);replace hS:=hid (hS.out.ext ea)
       (try replace hX:=hid (hX.out.ext ea))
       replace hR:=hid (hR.out.ext ea);replace hEw:=hEw.trans ea;replace hsz:Y1.heap.size<=(W.alloc (.cells #[I r.num,I r.den] 47)).heap.size:=Nat.le_trans hsz ea.size
       (try replace k1:=hid (ea.cell k1.out))
       refine hK1 _ _ (mkS h5.out hR.out) ?_;clear hK1;rw [<-hp2] at k2 ⊢;clear hp2 ea;generalize W.alloc (.cells #[I r.num,I r.den] 47)=W at *;refine Kf (i:=3) rfl (by kernel_rfl) inv (λinv K1 hK1 => ?_);go_simp;have ea:Ext W (W.alloc (.cells #[.slice gx n cx] 38)):=(Ext.refl W).alloc _;have k1:Hid ((W.alloc (.cells #[.slice gx n cx] 38)).cell? ⟨W.heap.size,0,none⟩=some (.slice gx n cx)):=hid (by go_simp);obtain ⟨p1,hp1⟩ : ∃p1,p1=W.heap.size:=⟨_,rfl⟩
       replace h5:=hid (h5.out.ext ea);replace hM:=hid (hM.out.ext ea);replace hS:=hid (hS.out.ext ea)
       (try replace hX:=hid (hX.out.ext ea))
       replace hR:=hid (hR.out.ext ea);replace hEw:=hEw.trans ea;replace hsz:Y1.heap.size<=(W.alloc (.cells #[.slice gx n cx] 38)).heap.size:=Nat.le_trans hsz ea.size
       (try replace k2:=hid (k2.out.ext ea))
       refine hK1 _ _ (mkS h5.out hR.out) ?_;clear hK1;rw [<-hp1] at k1 ⊢;clear hp1 ea;generalize W.alloc (.cells #[.slice gx n cx] 38)=W at *;refine Kf (i:=4) rfl (by kernel_rfl) inv (λinv K1 hK1 => ?_);refine Ja rfl _ _ rfl rfl hM.out rfl (b:=p1) (rv := .slice gx n cx) (r:=Kcp u n i) k1.out hX.out (by rw [Q1];omega) hsz ?_;intro gm cm W8 hO8 hB8 hG8;rw [Q1] at hO8 ⊢;rw [KeH] at hO8;replace h5:Hid (Kd 34 w.heap.size W8 b5 3 [slv g n n,vu,vo]):=hid (Zk h5.out hM.out (by decide) (by decide) hG8);replace hS:Hid (SzV Y1.heap.size W8 vo (ofL o i)):=hid (Zk hS.out hM.out (by decide) (by decide) hG8);replace hR:Hid (Kd 47 b9 W8 b9 2 [I r.num,I r.den]):=hid (Zk hR.out hM.out (by decide) (by decide) hG8)
       (try replace k2:Hid (Kd 47 p2 W8 p2 2 [I r.num,I r.den]):=hid (Zk k2.out hM.out (by decide) (by decide) hG8))
       replace hM:=hid hO8;replace hEw:Ext Y W8:=Below.trans hEw (hB8.mono hYY1);replace hsz:Y1.heap.size<=W8.heap.size:=Nat.le_trans hsz hB8.size;refine hK1 _ _ (mkS h5.out hR.out) ?_;clear hK1 hO8 hB8 hG8 k1 hX;generalize W8=W at *;have hst:=mkS h5.out hR.out;refine tkS (i:=10) (v := .pointer (some ⟨b5,1,none⟩)) rfl hst inv ?_;intro inv;go_simp;refine Kf (i:=9) rfl (by kernel_rfl) inv (λinv K1 hK1 => ?_);obtain ⟨t0,t1,_,_⟩:=Ky k2.out;refine ZK rfl _ _ 32 Tryz.underlying32 rfl rfl hS.out (b:=p2) rfl (r:=r) t0 t1 (by rw [K8];omega) hsz ?_;intro gr cr W8 hO8 hB8 hG8 _;rw [K8];rw [Hsno.out] at hO8;replace h5:Hid (Kd 34 w.heap.size W8 b5 3 [slv g n n,vu,vo]):=hid (Ks h5.out hS.out (by decide) hG8);replace hR:=hid (KdO hR.out hS.out hRne hG8);replace hM:=hid (Kb1 hM.out hS.out hG8);replace hS:=hid (show SzV Y1.heap.size W8 (slv gr (i+1) cr) (ofL o (i+1)) from by have:=hO8;unfold OwQ at this;rw [K8] at this;unfold SzV;rw [K8];exact this);replace hEw:Ext Y W8:=Below.trans hEw (hB8.mono hYY1);replace hsz:Y1.heap.size<=W8.heap.size:=Nat.le_trans hsz hB8.size;refine hK1 _ _ (mkS h5.out hR.out) ?_;clear hK1 hO8 hB8 hG8 k2 t0 t1;generalize W8=W at *;refine Ki (by kernel_rfl) ?_;obtain ⟨s1,g1⟩:=h5.out.set 1 (slv gm (i+1) cm);obtain ⟨s2,g2⟩:=s1.set 2 (slv gr (i+1) cr);have hG:=Kg g1 g2;have hf1:=h5.out.frozen 1;have hf2:=h5.out.frozen 2;obtain ⟨z1,z2,_,_⟩:=mkS h5.out hR.out
       have h5':=hid (show Kd 34 w.heap.size ((W.setCell ⟨b5,1,none⟩ (slv gm (i+1) cm)).setCell ⟨b5,2,none⟩ (slv gr (i+1) cr)) b5 3 [slv g n n,slv gm (i+1) cm,slv gr (i+1) cr] from s2);have hM':=hid (Zn hM.out h5.out (by decide) (by decide) hG);have hS':=hid (show SzV Y1.heap.size ((W.setCell ⟨b5,1,none⟩ (slv gm (i+1) cm)).setCell ⟨b5,2,none⟩ (slv gr (i+1) cr)) (slv gr (i+1) cr) (ofL o (i+1)) from Ks hS.out h5.out (by decide) hG);have hE':=hid (Kb hEw hG hb5Y0);have hs':=hid (show KaN Y1.heap.size ((W.setCell ⟨b5,1,none⟩ (slv gm (i+1) cm)).setCell ⟨b5,2,none⟩ (slv gr (i+1) cr)) from Nat.le_trans hsz hG.size);clear s1 s2 g1 g2 hG h5 hM hS hR hEw hsz;go_wp2_with fail;go_roundw
       case rel=>exact ⟨i+1,_,_,by omega,by go_num,h5',hM',hS',hE'.out,hs'⟩
       case measure=>simp [intOf]<;>omega
   ·obtain ⟨m,hm⟩ : ∃m,m=i:=⟨_,rfl⟩
    have hmn:m+1=n:=by omega
    rw [<-hm] at hMu hSo;obtain ⟨c5a,c5b,c5c⟩:=Xk h5.out
    have hvu : ∃gu cu,vu=slv gu m cu:=by
     obtain ⟨vs,h1,h2,h3⟩:=hMu.out
     rcases h2.2 with ⟨_,h0⟩ | ⟨g',cap,cur,e,_⟩
     ·rw [Q1] at h0;omega
     ·rw [Q1] at e;exact ⟨g',cap,e⟩
    obtain ⟨gu,cu,rfl⟩:=hvu;obtain ⟨gO,cO,hvo⟩:=KeC hSo.out (by rw [K8];omega);rw [K8] at hvo;subst hvo;have hMr:=hMu.out.mat;have hva:=hid (Kcr (w:=X) (sp:=some ⟨g,0,none⟩) (cp:=n) (vo:=slv gO m cO) hn23 hMr (by rw [Q1];exact hmn) (Kia u n m) (KnP u n m));have hXw:=EY.trans hE
    have Hpost:=hid (show ∀(W:World) (v0:Int),KT W (slv g n n) (Xi p)->KJ W (slv gu m cu) (unM u n m)->SzR W (slv gO m cO) (ofL o m)->okV n (unM u n m)=true->v0=(ZZ n (unM u n m)).getD 0 0->v0<=100->FkB W n n m cu gu (some ⟨g,0,none⟩) (slv gO m cO) (Xi p) (unM u n m) (ofL o m) (ZZ n (unM u n m)) from λW v0 hW1 hW2 hW3 hok hv hle =>
     ⟨hW1,Hn.out.symm,Hpk.out.2,hW2,hW3,by simp,λx hx=>(KjY Ho.out x hx).2.2,Kqa Ho.out m,BkM.mk' hn23 (by rw [Q1];exact hmn) (Kia u n m) (KnP u n m) hok (by rw [<-hv];exact hle)⟩)
    have Hfin:=hid (show ∀W f,Ext w W->(f=true->FkB W n n m cu gu (some ⟨g,0,none⟩) (slv gO m cO) (Xi p) (unM u n m) (ofL o m) (ZZ n (unM u n m))/\SzV w.heap.size W (slv gO m cO) (ofL o m)/\Qk w.heap.size W (slv gu m cu) (unM u n m))->Kjs w p u o (.returned (.tuple #[.agg #[slv g n n,slv gu m cu,(slv gO m cO)],.bool f])) W from λW f hEW hf=>by
     refine ⟨n,cu,gu,some ⟨g,0,none⟩,(slv gO m cO),f,?_,⟨_,_,_,rfl⟩,hEW,λh => ?_⟩
     ·rw [<-Hn.out,show n-1=m by omega]
     ·rw [<-Hn.out,show n-1=m by omega];exact hf h)
    have HPX:=hid (hP.out.ext hE);have HMX:=hid hMu.out;have HSX:=hid hSo.out;have hB2X:=hid (HB1.out.ext hE);have h5X:=hid h5.out;have hno : ¬((i:Int)+1<(n:Int)):=by omega
    have Hmn:=hid hmn;have hm2:m<=2:=by omega
    have Hmi:=hid hm;clear hMu hSo hs h5 hMr hs0 hm hmn;go_wp2_with fail;refine hva.out.mono ?_;rintro e X2 ⟨hcase,hE2⟩;have c5a:=hE2.cell c5a;have c5b:=hE2.cell c5b;have c5c:=hE2.cell c5c
    rcases hcase with ⟨hok,v,rfl,hv⟩ | ⟨_,rfl⟩
    ·have hgl:=World.ownsRow.lt hv;obtain ⟨sa,gb',go',cap',rfl,hcv,hSv⟩:=hv.row
     have hvl:(ZZ n (unM u n m)).length=n:=by
      have:=Ym (unM u n m) hn23;unfold ZZ;split
      ·rw [List.length_map,this]
      ·exact this
     obtain ⟨v0,hv0⟩ : ∃v0,v0=(ZZ n (unM u n m)).getD 0 0:=⟨_,rfl⟩
     have k0:=hSv.cell 0 (.int .i64 v0) (by rw [Qg (show 0<(ZZ n (unM u n m)).length by omega),hv0,Ka (show 0<(ZZ n (unM u n m)).length by omega)]);obtain rfl:=hSv.addr (by simp;omega);rw [Nat.add_zero] at k0;have hne':gb'≠b2:=by have h1:=(hgl gb' rfl).1;have h2:=hB2X.out.lt.2;omega
     clear hgl;rw [hvl] at hcv ⊢;have Hv0:=hid hv0;clear hv hSv hvl hv0
     by_cases hle:v0<=100
     ·skip
      obtain ⟨s0,g0⟩:=(hB2X.out.ext hE2).set 0 (slv g n n);obtain ⟨s1,g1⟩:=s0.set 1 (slv gu m cu);obtain ⟨s2,g2⟩:=s1.set 2 (slv gO m cO);have hG:=Kg (Kg g0 g1) g2;have f0:=(hB2X.out.ext hE2).frozen 0;have f1:=(hB2X.out.ext hE2).frozen 1;have f2:=(hB2X.out.ext hE2).frozen 2;obtain ⟨e0,e1,e2⟩:=Xk (hB2X.out.ext hE2);have k0'':=Kl hG hne' k0;have hs3:=hid (show Kd 34 w.heap.size (((X2.setCell ⟨b2,0,none⟩ (slv g n n)).setCell ⟨b2,1,none⟩ (slv gu m cu)).setCell ⟨b2,2,none⟩ (slv gO m cO)) b2 3 [slv g n n,slv gu m cu,(slv gO m cO)] from s2);have hEe:=hid (Kb (hXw.trans hE2) hG hbw);have k0':=Kl hG hne' k0;have q1:=hid (Kns (HPX.out.ext hE2) hG hgb2);have q2:=hid (Zn (HMX.out.ext hE2) (hB2X.out.ext hE2) (by decide) (by decide) hG).mat;have q3:=hid (show SzR (((X2.setCell ⟨b2,0,none⟩ (slv g n n)).setCell ⟨b2,1,none⟩ (slv gu m cu)).setCell ⟨b2,2,none⟩ (slv gO m cO)) (slv gO m cO) (ofL o m) from SzV.read (Ks (HSX.out.ext hE2) (hB2X.out.ext hE2) (by decide) hG));have q4:=hid (show SzV w.heap.size (((X2.setCell ⟨b2,0,none⟩ (slv g n n)).setCell ⟨b2,1,none⟩ (slv gu m cu)).setCell ⟨b2,2,none⟩ (slv gO m cO)) (slv gO m cO) (ofL o m) from SzV.mono (Ks (HSX.out.ext hE2) (hB2X.out.ext hE2) (by decide) hG) (Nat.le_trans EY.size hYY1));have q5:=hid ((Zn (HMX.out.ext hE2) (hB2X.out.ext hE2) (by decide) (by decide) hG).mono (Nat.le_trans EY.size hYY1));clear s0 s1 s2 g0 g1 g2 hG;go_wp2_with fail
      go_region
      (try go_wp2_with fail)
      generalize World.setCell (World.setCell (World.setCell X2 _ _) _ _) _ _=X3 at *;obtain ⟨r0,r1,r2⟩:=Xk (hs3.out.ext ((Ext.refl X3).drew));have hEf:=hEe.out.drew;have hpost:=hid (Hfin.out X3.drew true hEf (λ_=>⟨Hpost.out X3.drew v0 (q1.out.ext ((Ext.refl X3).drew)) (q2.out.ext ((Ext.refl X3).drew)) (q3.out.ext ((Ext.refl X3).drew)) hok Hv0.out hle,q4.out.ext ((Ext.refl X3).drew),q5.out.ext ((Ext.refl X3).drew)⟩));refine bodyPost_ret (v := .tuple #[.agg #[slv g n n,slv gu m cu,(slv gO m cO)],.bool true]) (by simp [results,Tryz.results4,go_sem,r0,r1,r2]) rfl hpost.out
     ·skip
      obtain ⟨s0,g0⟩:=(hB2X.out.ext hE2).set 0 (slv g n n);obtain ⟨s1,g1⟩:=s0.set 1 (slv gu m cu);obtain ⟨s2,g2⟩:=s1.set 2 (slv gO m cO);have hG:=Kg (Kg g0 g1) g2;have f0:=(hB2X.out.ext hE2).frozen 0;have f1:=(hB2X.out.ext hE2).frozen 1;have f2:=(hB2X.out.ext hE2).frozen 2;obtain ⟨e0,e1,e2⟩:=Xk (hB2X.out.ext hE2);have k0'':=Kl hG hne' k0;have hs3:=hid (show Kd 34 w.heap.size (((X2.setCell ⟨b2,0,none⟩ (slv g n n)).setCell ⟨b2,1,none⟩ (slv gu m cu)).setCell ⟨b2,2,none⟩ (slv gO m cO)) b2 3 [slv g n n,slv gu m cu,(slv gO m cO)] from s2);have hEe:=hid (Kb (hXw.trans hE2) hG hbw);clear s0 s1 s2 g0 g1 g2 hG;go_wp2_with fail
      go_region
      (try go_wp2_with fail)
      generalize World.setCell (World.setCell (World.setCell X2 _ _) _ _) _ _=X3 at *;obtain ⟨r0,r1,r2⟩:=Xk (hs3.out.ext ((Ext.refl X3).drew));have hEf:=hEe.out.drew;have hpost:=hid (Hfin.out X3.drew false hEf (λh=>absurd h (by simp)));refine bodyPost_ret (v := .tuple #[.agg #[slv g n n,slv gu m cu,(slv gO m cO)],.bool false]) (by simp [results,Tryz.results4,go_sem,r0,r1,r2];omega) rfl hpost.out
    ·skip
     obtain ⟨s0,g0⟩:=(hB2X.out.ext hE2).set 0 (slv g n n);obtain ⟨s1,g1⟩:=s0.set 1 (slv gu m cu);obtain ⟨s2,g2⟩:=s1.set 2 (slv gO m cO);have hG:=Kg (Kg g0 g1) g2;have f0:=(hB2X.out.ext hE2).frozen 0;have f1:=(hB2X.out.ext hE2).frozen 1;have f2:=(hB2X.out.ext hE2).frozen 2;obtain ⟨e0,e1,e2⟩:=Xk (hB2X.out.ext hE2);have hs3:=hid (show Kd 34 w.heap.size (((X2.setCell ⟨b2,0,none⟩ (slv g n n)).setCell ⟨b2,1,none⟩ (slv gu m cu)).setCell ⟨b2,2,none⟩ (slv gO m cO)) b2 3 [slv g n n,slv gu m cu,(slv gO m cO)] from s2);have hEe:=hid (Kb (hXw.trans hE2) hG hbw);clear s0 s1 s2 g0 g1 g2 hG;go_wp2_with fail
     go_region
     (try go_wp2_with fail)
     generalize World.setCell (World.setCell (World.setCell X2 _ _) _ _) _ _=X3 at *;obtain ⟨r0,r1,r2⟩:=Xk (hs3.out.ext ((Ext.refl X3).drew));have hEf:=hEe.out.drew;have hpost:=hid (Hfin.out X3.drew false hEf (λh=>absurd h (by simp)));refine bodyPost_ret (v := .tuple #[.agg #[slv g n n,slv gu m cu,(slv gO m cO)],.bool false]) (by simp [results,Tryz.results4,go_sem,r0,r1,r2]) rfl hpost.out
end
end Go.Proofs.YtdmaofimeknkbaaGreatDoor
