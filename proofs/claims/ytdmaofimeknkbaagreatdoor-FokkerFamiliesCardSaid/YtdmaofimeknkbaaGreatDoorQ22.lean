/- Part 22 of the proof of the claim: contracts of the functions that it reaches, and plain laws; no condition. -/
import Derived.Test.YtdmaofimeknkbaaGreatDoorQ19
import Derived.Test.YtdmaofimeknkbaaGreatDoorQ21
import Derived.BigQuiet
import Derived.Test.YtdmaofimeknkbaaGreatDoorQ12
import Derived.Test.YtdmaofimeknkbaaGreatDoorQ17
import Derived.Test.YtdmaofimeknkbaaGreatDoorQ09
set_option maxRecDepth 100000
set_option maxHeartbeats 20000000
namespace Go.Proofs.YtdmaofimeknkbaaGreatDoor
section
open Go.RowKit Go.Sort
open Lib (hid)
theorem KdT {w:World} {s1 s2:Option Addr} {n1 c1 n2 c2:Nat} :
  Calls Tryz.prog 99 #[.slice s1 n1 c1,I 0,.slice s2 n2 c2] w λe w'=>e = .returned (.tuple #[])/\Ext w w':=by
 have hkz:(Lib.itoa 0==[48])=true:=by rw [KB];rfl
 go_enter Tryz.func99,Tryz.ntmps99
 go_wp2_with fail;refine bodyPost_ret (results_none rfl _ _ _) rfl ?_;exact ⟨rfl,Ext.refl _⟩
theorem KoK {n i c d:Nat} {ps:List Nat} {K:Mx} (hI:IsH n ps K) (hi:i<K.length) (hd:d<i) (hc:ps.getD d 0=c):eM K i c=0 :=
 hI.left i hi c (by rw [<-hc];exact hI.inc d i hd hi)
theorem KkY {w0 w:World} {g cap n L:Nat} {vs:List Value} {K:Mx} {ps:List Nat} (hI:IsH n ps K) (hLK:L=K.length) (hL0:0<L) (hn:n<=1000000) (hN:L<=1000000) (hcap:L<=cap) (hO:Kd 152 w0.heap.size w g cap vs) (hvl:vs.length=L)
  (hr : ∀i (_:i<K.length) (h':i<vs.length),Z0 w0 vs[i] K[i]) (hb : ∀i c,nd (eM K i c)<LIM) (hL:Laid w0) (hE:Ext w0 w) :
  Calls Tryz.prog 57 #[slv g L cap,.int .i64 n] w λe w'=>e = .returned (slv g L cap)/\Kd 152 w0.heap.size w' g cap vs/\Ext w0 w':=by
 have hrow : ∀wr,Kd 152 w0.heap.size wr g cap vs->Ext w0 wr -> ∀i c,i<L->c<n -> ∃br or cr,wr.cell? ⟨g,i,none⟩=some (.slice (some ⟨br,or,none⟩) n cr)/\wr.cell? ⟨br,or+c,none⟩=some (I (eM K i c))/\vs[i]? = some (.slice (some ⟨br,or,none⟩) n cr):=λwr hOr hEr i c hi hc=>by
  have hiK:i<K.length:=by omega
  have hiv:i<vs.length:=by omega
  obtain ⟨sr,br,or,cr,e,h1,h2⟩:=hr i hiK hiv;have hl:K[i].length=n:=hI.rect _ (List.getElem_mem hiK);rw [hl] at e;obtain rfl:=h2.addr (by simp;omega);have hc1:=hOr.cell (j:=i) hiv;rw [e] at hc1;refine ⟨br,or,cr,hc1,?_,by rw [List.getElem?_eq_getElem hiv,e]⟩
  have h3:=h2.cell c (I (eM K i c)) (by
   unfold eM;rw [Ka hiK,Ka (by omega)]
   simp [ss,hl,hc])
  exact hEr.cell h3
 have Hrow:=hid hrow;have HI:=hid hI;have Hb:=hid hb;have HL:=hid hL;have HLK:=hid hLK;have Hgb:=hid hO.lt.1;have Hvl:=hid hvl;have Hfin:=hid (show ∀i,i<L->ps.getD i 0<n from λi hi=>hI.lt i (by omega));clear hrow hI hr hb hL hLK hvl
 go_enter Tryz.func57,Tryz.ntmps57
 go_wp2_with fail
 go_loopw [5,6] (λdn idx wr => ∃(c d:Nat),c<=n/\d<=L/\idx = .int .i64 c/\dn = .int .i64 d/\Hid (∀i,i<d->ps.getD i 0<c)/\Hid (∀i,d<=i->i<L->c<=ps.getD i 0)/\Hid (Kd 152 w0.heap.size wr g cap vs)/\Ext w0 wr) (λ_ idx _=>n-(intOf idx).toNat)
 case atStart=>exact ⟨0,0,by omega,by omega,by go_num,by go_num,hid (λi h=>by omega),hid (λi _ _=>by omega),hid hO,hE⟩
 case round =>
  clear hO hE;obtain ⟨c,d,hc,hdL,rfl,rfl,Hlo,Hhi,HO,hE⟩:=hrel;generalize wr=U at *;have hdcap:(d:Int)<=(cap:Int):=by omega
  by_cases hcn:c<n
  ·have hci:(c:Int)<(n:Int):=by omega
   by_cases hdl:d<L
   ·have hdi:(d:Int)<(L:Int):=by omega
    by_cases hP:ps.getD d 0=c
    case neg =>
     have Hz:=hid (show ∀i,d<=i->i<L->eM K i c=0 from λi h1 h2=>HI.out.left i (by rw [<-HLK.out];exact h2) c (by
      have h3:=Hhi.out d (Nat.le_refl _) hdl
      rcases Nat.lt_or_ge d i with h4 | h4
      ·have:=HI.out.inc d i h4 (by rw [<-HLK.out];exact h2);omega
      ·have:i=d:=by omega
       subst this;omega))
     have Hhi2:=hid (show ∀i,d<=i->i<L->c+1<=ps.getD i 0 from λi h1 h2=>by
      have h3:=Hhi.out d (Nat.le_refl _) hdl
      rcases Nat.lt_or_ge d i with h4 | h4
      ·have:=HI.out.inc d i h4 (by rw [<-HLK.out];exact h2);omega
      ·have:i=d:=by omega
       subst this;omega)
     have Hlo2:=hid (show ∀i,i<d->ps.getD i 0<c+1 from λi h=>by have:=Hlo.out i h;omega);clear hP;go_wp2_with fail
     go_loopw [5] (λdn wr=>dn = .int .i64 d/\Hid (Kd 152 w0.heap.size wr g cap vs)/\Ext w0 wr) (λ_ _=>0)
     case atStart=>exact ⟨rfl,HO,hE⟩
     case round =>
      clear HO hE;obtain ⟨rfl,HO,hE⟩:=hrel;generalize wr=V at *;go_wp2_with fail
      go_loopw [7,8] (λkk idx wr => ∃i:Nat,d<=i/\i<=L/\idx = .int .i64 i/\kk = .int .i64 (-1)/\Hid (Kd 152 w0.heap.size wr g cap vs)/\Ext w0 wr) (λ_ idx _=>L-(intOf idx).toNat)
      case atStart=>exact ⟨d,by omega,by omega,rfl,rfl,HO,hE⟩
      case round =>
       clear HO hE;obtain ⟨i,hi1,hi2,rfl,rfl,HO,hE⟩:=hrel;generalize wr=X at *
       by_cases hlt:i<L
       ·have hii:(i:Int)<(L:Int):=by omega
        obtain ⟨br,or,cr,c1,cz,_⟩:=Hrow.out X HO.out hE i c hlt hcn;rw [Hz.out i hi1 hlt] at cz;have hitz:(Lib.itoa 0==[48])=true:=by rw [KB];rfl
        go_wp2_with fail
        go_quiet (fail)
        go_wp2_with fail;go_roundw
        case rel=>exact ⟨i+1,by omega,by omega,by go_num,rfl,hid (HO.out.ext ((Ext.refl _).drewN _)),hE.drewN _⟩
        case measure=>simp [intOf]<;>omega
       ·have hie:i=L:=by omega
        subst hie;go_wp2_with fail;go_roundw
        case rel=>exact ⟨c+1,d,by omega,by omega,by go_num,rfl,Hlo2,Hhi2,HO,hE⟩
        case measure=>simp [intOf]<;>omega
    case pos =>
     obtain ⟨y,hy⟩ : ∃y,y=eM K d c:=⟨_,rfl⟩
     have hy0:0<y:=by rw [hy,<-hP];exact HI.out.pos d (by rw [<-HLK.out];exact hdl)
     have Hy:=hid hy;have Hz:=hid (show ∀i,d<i->i<L->eM K i c=0 from λi h1 h2=>KoK HI.out (by rw [<-HLK.out];exact h2) h1 hP)
     have Hab:=hid (show ∀j,j<d->0<=eM K j c/\eM K j c<y from λj h=>by
      have:=HI.out.red j d h (by rw [<-HLK.out];exact hdl);rw [hP] at this
      rw [hy];exact this)
     have Hhi2:=hid (show ∀i,d+1<=i->i<L->c+1<=ps.getD i 0 from λi h1 h2=>by
      have:=HI.out.inc d i (by omega) (by rw [<-HLK.out];exact h2);omega)
     have Hlo2:=hid (show ∀i,i<d+1->ps.getD i 0<c+1 from λi h=>by
      by_cases e:i=d
      ·subst e;omega
      ·have:=Hlo.out i (by omega);omega)
     have hy1:y≠0:=by omega
     have Hy1:=hid hy1;have Hyl:=hid (show nd y<LIM by rw [hy];exact Hb.out d c);have hity:(Lib.itoa y==[48])=false:=by rw [KB];exact decide_eq_false hy1
     have hitz:(Lib.itoa 0==[48])=true:=by rw [KB];rfl
     have Hsg:=hid (show y.sign=1 from Int.sign_eq_one_of_pos hy0);clear hP hy hy0 hy1;go_wp2_with fail
     go_loopw [5] (λdn wr=>dn = .int .i64 d/\Hid (Kd 152 w0.heap.size wr g cap vs)/\Ext w0 wr) (λ_ _=>0)
     case atStart=>exact ⟨rfl,HO,hE⟩
     case round =>
      clear HO hE;obtain ⟨rfl,HO,hE⟩:=hrel;generalize wr=V at *;go_wp2_with fail
      go_loopw [7,8] (λkk idx wr => ∃(i:Nat) (kv:Int),d<=i/\i<=L/\idx = .int .i64 i/\kk = .int .i64 kv/\((i=d/\kv = -1)\/(d<i/\kv=(d:Int)))/\Hid (Kd 152 w0.heap.size wr g cap vs)/\Ext w0 wr) (λ_ idx _=>L-(intOf idx).toNat)
      case atStart=>exact ⟨d,-1,by omega,by omega,rfl,rfl,.inl ⟨rfl,rfl⟩,HO,hE⟩
      case round =>
       clear HO hE;obtain ⟨i,kv,hi1,hi2,rfl,rfl,hkv,HO,hE⟩:=hrel;generalize wr=X at *
       by_cases hlt:i<L
       ·have hii:(i:Int)<(L:Int):=by omega
        obtain ⟨br,or,cr,c1,cz,_⟩:=Hrow.out X HO.out hE i c hlt hcn
        rcases hkv with ⟨rfl,rfl⟩ | ⟨hdi2,rfl⟩
        ·rw [<-Hy.out] at cz;go_wp2_with fail
         go_quiet (fail)
         go_wp2_with fail;go_roundw
         case rel=>exact ⟨i+1,(i:Int),by omega,by omega,by go_num,rfl,.inr ⟨by omega,rfl⟩,hid (HO.out.ext ((Ext.refl _).drewN _)),hE.drewN _⟩
         case measure=>simp [intOf]<;>omega
        ·rw [Hz.out i hdi2 hlt] at cz;clear hity;go_wp2_with fail
         go_quiet (fail)
         go_wp2_with fail;go_roundw
         case rel=>exact ⟨i+1,(d:Int),by omega,by omega,by go_num,rfl,.inr ⟨by omega,rfl⟩,hid (HO.out.ext ((Ext.refl _).drewN _)),hE.drewN _⟩
         case measure=>simp [intOf]<;>omega
       ·have hie:i=L:=by omega
        obtain rfl:kv=(d:Int):=by omega
        have hd0 : ¬(d:Int)<0:=by omega
        obtain ⟨bd,od,cd,c1,cy,hvd⟩:=Hrow.out X HO.out hE d c hdl hcn;have fz:=HO.out.frozen d;obtain ⟨hs1,hg1⟩:=HO.out.set d (.slice (some ⟨bd,od,none⟩) n cd);obtain ⟨hs2,hg2⟩:=hs1.set d (.slice (some ⟨bd,od,none⟩) n cd)
        have hvs:(vs.set d (.slice (some ⟨bd,od,none⟩) n cd)).set d (.slice (some ⟨bd,od,none⟩) n cd)=vs:=by
         obtain ⟨h1,h2⟩:=List.getElem?_eq_some_iff.1 hvd;rw [List.set_set,<-h2,List.set_getElem_self]
        rw [hvs] at hs2;have HS2:=hid (show Kd 152 w0.heap.size _ g cap vs/\Ext w0 _ from ⟨hs2,Kb hE (Kg hg1 hg2) Hgb.out⟩);clear hs1 hs2 hg1 hg2 hvs cy hvd hkv hie;go_wp2_with fail
        go_region
        have hO3:=HS2.out.1.ext ((Ext.refl _).drew);have hE3:=HS2.out.2.drew;have HO3:=hid hO3;clear hO3 HS2 HO hE c1 fz;generalize hW3:World.drew (World.setCell _ _ _)=W3 at *;clear hW3;go_wp2_with fail
        go_loopw [9,10] (λrv idx wr => ∃j:Nat,d<j/\j<=L/\idx = .int .i64 j/\rv = .bool false/\Hid (Kd 152 w0.heap.size wr g cap vs)/\Ext w0 wr) (λ_ idx _=>L-(intOf idx).toNat)
        case atStart=>exact ⟨d+1,by omega,by omega,by go_num,rfl,HO3,hE3⟩
        case round =>
         clear HO3 hE3;obtain ⟨j,hj1,hj2,rfl,rfl,HO,hE⟩:=hrel;generalize wr=Y at *
         by_cases hjl:j<L
         ·have hji:(j:Int)<(L:Int):=by omega
          obtain ⟨bj,oj,cj,a1,a2,_⟩:=Hrow.out Y HO.out hE j c hjl hcn;obtain ⟨bd,od,cd,c1,c2,_⟩:=Hrow.out Y HO.out hE d c hdl hcn;rw [Hz.out j hj1 hjl] at a2;rw [<-Hy.out] at c2;have k1:=cell_regrown a1;have k2:=cell_regrown a2;have k3:=cell_regrown c1;have k4:=cell_regrown c2;have hdm:=λW (h:Ext Y W)=>Qf (a:=0) (b:=y) (w:=W) (by have:=Hb.out j c;rw [Hz.out j hj1 hjl] at this;exact this) Hyl.out Hy1.out (HL.out.ext (hE.trans h))
          rw [show (0:Int).fdiv y=0 from Int.zero_fdiv y,show (0:Int).fmod y=0 from Int.zero_fmod y] at hdm;have bD:=hid (Qn (w:=Y) (λW h=>hdm W h));clear hdm hity;go_wp2_with fail;refine wp_region_quiet_below (by kernel_rfl) (by kernel_rfl) ?_
          repeat (quiet_step (exact bD.out _ _))
          refine wpQuiet_nil ?_;intro _ hw';obtain ⟨⟨dq,osq⟩,hw''⟩:=hw';subst hw'';have hE6:=Kk Y dq osq;have m3:=k1 dq osq;have m4:=k3 dq osq;clear bD k1 k2 k3 k4;generalize hW6:grow (redrawn _ _) _=W6 at *;have n3:=cell_regrown m3;have n4:=cell_regrown m4;clear hW6 m3 m4;go_wp2_with fail;refine Km 9 (by kernel_rfl) (by kernel_rfl) ?_;simp only [List.take_succ_cons,List.take_zero,List.drop_succ_cons,List.drop_zero]
          repeat (quiet_step (fail))
          refine wpQuiet_nil ?_;intro _ hw';obtain ⟨⟨dq,osq⟩,hw''⟩:=hw';subst hw'';have hE7:=hE6.trans (Kk _ dq osq);clear n3 n4;generalize hW7:grow (redrawn _ _) _=W7 at *;clear hW7;go_wp2_with fail;refine KdT.mono ?_;rintro e W8 ⟨rfl,hE8⟩;have hE9:=hE7.trans hE8;have HO9:=hid (HO.out.ext hE9);have hEE:=hE.trans hE9;go_wp2_with fail;go_roundw
          case rel=>exact ⟨j+1,by omega,by omega,by go_num,by simp,HO9,hEE⟩
          case measure=>simp [intOf]<;>omega
         ·have hje:j=L:=by omega
          obtain ⟨bd,od,cd,c1,c2,_⟩:=Hrow.out Y HO.out hE d c hdl hcn;rw [<-Hy.out] at c2;have HS:=hid (ZJ y);rw [Hsg.out] at HS;clear hje;go_wp2_with fail;refine (HS.out _).mono ?_;rintro e W4 ⟨rfl,hE4⟩;have HO4:=hid (HO.out.ext hE4);have hE5:=hE.trans hE4;clear HS c1 c2 HO hE;go_wp2_with fail
          go_loopw [143] (λidx wr => ∃j:Nat,j<=d/\idx = .int .i64 j/\Hid (Kd 152 w0.heap.size wr g cap vs)/\Ext w0 wr) (λidx _=>d-(intOf idx).toNat)
          case atStart=>exact ⟨0,by omega,by go_num,HO4,hE5⟩
          case round =>
           clear HO4 hE5;obtain ⟨j,hj,rfl,HO,hE⟩:=hrel;generalize wr=Q at *
           by_cases hjl:j<d
           ·have hji:(j:Int)<(d:Int):=by omega
            have hjN:(j:Int)<(L:Int):=by omega
            obtain ⟨bj,oj,cj,a1,a2,_⟩:=Hrow.out Q HO.out hE j c (by omega) hcn;obtain ⟨bd,od,cd,c1,c2,_⟩:=Hrow.out Q HO.out hE d c hdl hcn;obtain ⟨z,hz⟩ : ∃z,z=eM K j c:=⟨_,rfl⟩
            have hzb:=Hab.out j hjl;have Hzl:=hid (show nd z<LIM by rw [hz];exact Hb.out j c);rw [<-hz] at a2 hzb;rw [<-Hy.out] at c2;have k1:=cell_regrown a1;have k2:=cell_regrown a2;have k3:=cell_regrown c1;have k4:=cell_regrown c2;have hdm:=λW (h:Ext Q W)=>Qf (a:=z) (b:=y) (w:=W) Hzl.out Hyl.out Hy1.out (HL.out.ext (hE.trans h))
            rw [show z.fdiv y=0 by rw [Int.fdiv_eq_ediv_of_nonneg _ (by omega)];exact Int.ediv_eq_zero_of_lt hzb.1 hzb.2] at hdm;have bD:=hid (Qn (w:=Q) (λW h=>hdm W h));clear hdm hity hz hzb;go_wp2_with fail;refine wp_region_quiet_below (by kernel_rfl) (by kernel_rfl) ?_
            repeat (quiet_step (exact bD.out _ _))
            refine wpQuiet_nil ?_;intro _ hw';obtain ⟨⟨dq,osq⟩,hw''⟩:=hw';subst hw'';have hE6:=Kk Q dq osq;have m3:=k1 dq osq;have m4:=k3 dq osq;clear bD k1 k2 k3 k4;generalize hW6:grow (redrawn _ _) _=W6 at *;have n3:=cell_regrown m3;have n4:=cell_regrown m4;clear hW6 m3 m4;go_wp2_with fail;refine Km 9 (by kernel_rfl) (by kernel_rfl) ?_;simp only [List.take_succ_cons,List.take_zero,List.drop_succ_cons,List.drop_zero]
            repeat (quiet_step (fail))
            refine wpQuiet_nil ?_;intro _ hw';obtain ⟨⟨dq,osq⟩,hw''⟩:=hw';subst hw'';have hE7:=hE6.trans (Kk _ dq osq);clear n3 n4;generalize hW7:grow (redrawn _ _) _=W7 at *;clear hW7;go_wp2_with fail;refine KdT.mono ?_;rintro e W8 ⟨rfl,hE8⟩;have hE9:=hE7.trans hE8;have HO9:=hid (HO.out.ext hE9);have hEE:=hE.trans hE9;go_wp2_with fail;go_roundw
            case rel=>exact ⟨j+1,by omega,by go_num,HO9,hEE⟩
            case measure=>simp [intOf]<;>omega
           ·have hje:j=d:=by omega
            subst hje;go_wp2_with fail;go_roundw
            case rel=>exact ⟨c+1,j+1,by omega,by omega,by go_num,by go_num,Hlo2,Hhi2,HO,hE⟩
            case measure=>simp [intOf]<;>omega
   ·have hde:d=L:=by omega
    have hdi : ¬(d:Int)<(L:Int):=by omega
    subst hde;go_wp2_with fail;go_ret;exact ⟨rfl,HO.out,hE⟩
  ·have hce:c=n:=by omega
   have hci : ¬(c:Int)<(n:Int):=by omega
   have hde:d=L:=by
    rcases Nat.lt_or_ge d L with h | h
    ·have h1:=Hhi.out d (Nat.le_refl _) h;have h2:=Hfin.out d h;omega
    ·omega
   subst hde;go_wp2_with fail;go_ret;exact ⟨rfl,HO.out,hE⟩
theorem Khf {w:World} {sa:Option Addr} {gb go cap:Nat} {vs:List Value} {p:Nat->Bool} {k:Int} (hS:Sl w sa gb go vs) (hl:vs.length<=1000000)
  (hF : ∀i (h:i<vs.length) W,Ext w W->Calls Tryz.prog 162 #[vs[i]] W λe w'=>e = .returned (.bool (p i))/\Ext W w') (hk:IxR p vs.length k) :
  Calls Tryz.prog 161 #[.slice sa vs.length cap,.func (.func 162) #[] #[]] w λe w'=>e = .returned (.int .i64 k)/\Ext w w':=by
 have HF:=hid hF;have HK:=hid hk;have HS:=hid hS;clear hF hk hS
 go_enter Tryz.func161,Tryz.ntmps161
 go_wp2_with fail
 go_loopw [8] (λidx wr => ∃i:Nat,i<=vs.length/\idx = .int .i64 i/\Hid (∀j,j<i->p j=false)/\Ext w wr) (λidx _=>vs.length-(intOf idx).toNat)
 case atStart=>exact ⟨0,by omega,by go_num,hid (λj h=>by omega),Ext.refl _⟩
 case round =>
  obtain ⟨i,hi,rfl,Hp,hE⟩:=hrel;generalize wr=X at *
  by_cases hlt:i<vs.length
  ·have hii:(i:Int)<(vs.length:Int):=by omega
   obtain ⟨u,hu⟩ : ∃u,u=vs[i]:=⟨_,rfl⟩
   have hc:=hE.cell (HS.out.cell i u (by rw [hu];exact List.getElem?_eq_getElem hlt));obtain rfl:=HS.out.addr (by omega);have hf:=HF.out i hlt X hE;rw [<-hu] at hf;have Hf:=hid hf;clear hf hu
   cases hpi:p i
   ·rw [hpi] at Hf;have Hpi:=hid hpi;clear hpi;go_wp2_with fail;refine Hf.out.mono ?_;rintro e W ⟨rfl,hE2⟩;go_wp2_with fail;go_roundw
    case rel=>exact ⟨i+1,by omega,by go_num,hid (λj hj=>by
     by_cases e:j=i
     ·subst e;exact Hpi.out
     ·exact Hp.out j (by omega)),hE.trans hE2⟩
    case measure=>simp [intOf]<;>omega
   ·rw [hpi] at Hf;have Hki:=hid (JH HK.out hlt hpi Hp.out);clear hpi;go_wp2_with fail;refine Hf.out.mono ?_;rintro e W ⟨rfl,hE2⟩;go_wp2_with fail;go_ret;exact ⟨by rw [Hki.out];rfl,hE.trans hE2⟩
  ·have Hki:=hid (JI HK.out (λj hj=>Hp.out j (by omega)));go_wp2_with fail;go_ret;exact ⟨by rw [Hki.out];rfl,hE⟩
theorem KiM (z:Int) (w:World):Calls Tryz.prog 162 #[I z] w λe w'=>e = .returned (.bool (decide (z≠0)))/\Ext w w':=by
 have hitz:(Lib.itoa z==[48])=decide (z=0):=KB z
 by_cases h:z=0
 ·rw [decide_eq_true h] at hitz;have hb:decide (z≠0)=false:=decide_eq_false (by simpa using h);rw [hb];clear h hb
  go_enter Tryz.func162,Tryz.ntmps162
  go_wp2
  go_ret;exact ⟨rfl,Ext.refl _⟩
 ·rw [decide_eq_false h] at hitz;have hb:decide (z≠0)=true:=decide_eq_true h;rw [hb];have hitz2:(Lib.itoa z != [48])=true:=by simp [bne,hitz]
  clear h hb
  go_enter Tryz.func162,Tryz.ntmps162
  go_wp2
  go_ret;exact ⟨rfl,Ext.refl _⟩
theorem Kk0 {w:World} {sa:Option Addr} {gb go cap:Nat} {l:List Int} (hS:Sl w sa gb go (ss l)) (hl:l.length<=1000000) :
  Calls Tryz.prog 132 #[.slice sa l.length cap] w λe w'=>e = .returned (.int .i64 (pvI l))/\Ext w w':=by
 have hix:=Khf (cap:=cap) (p:=λj=>decide (l.getD j 0≠0)) (k:=pvI l) (w:=w) hS (by rw [Kx];exact hl) (λj hj W hW=>by
  have hj':j<l.length:=by simpa using hj
  have e:(ss l)[j]=I (l.getD j 0):=by rw [Ka hj'];simp [ss]
  rw [e];exact KiM _ W) (by rw [Kx];exact KiW l)
 rw [Kx] at hix;have Hix:=hid hix;clear hix hS;generalize pvI l=p at *
 go_enter Tryz.func132,Tryz.ntmps132
 go_wp2_with fail;refine Hix.out.mono ?_;rintro e w1 ⟨rfl,hE1⟩;go_wp2_with fail;go_ret;exact ⟨rfl,hE1⟩
section
variable {w:World} {ops:Array Oper} {rest:List Oper} {o:Oper} {a:Act} {Q:Exit->Act->World->Prop}
theorem KgJ (hgd:o.guard=none) (s x:Operand) (ho:o.op = .call { callee := .builtin .append,args := #[s,x],argTypes := #[152,152] })
  {B:Nat} {v:Value} {r q:List Int} (hs:a.eval s=v) (hown:KW B w v r) {ad:Addr} {c:Nat} (hx:a.eval x = .slice (some ad) q.length c) (hc : ∀(j:Nat) (u:Value),(ss q)[j]? = some u->w.cell? (ad.add j)=some u) (h0:0<q.length) (hl:r.length+q.length<=1000000000) (hB:B<=w.heap.size)
  (h : ∀g cap w',KW B w' (slv g (r.length+q.length) cap) (r++q)->Below B w w'->w.grownBy w' v.ownBlock->(v.ownBlock=some g\/g=w.heap.size)->wpList Tryz.prog ops Q rest (a.put o.dst (slv g (r.length+q.length) cap)) w'):wpList Tryz.prog ops Q (o::rest) a w:=by
 obtain ⟨i0,hi,hz0,hz1,hz2⟩:=info_parts Tryz.infoStr;refine wpList_append_lies w hgd s x 152 ho B 45 i0 _ 1 16 Tryz.underlying152 hi hz0 hz1 hz2 rfl (by omega) v r.length (ss r) hs hown ad q.length c (ss q) hx (by simp) hc (λu hu=>by obtain ⟨z,_,rfl⟩:=List.mem_map.1 hu;rfl) h0 (by unfold maxLen;omega) (by omega) hB w.heap.size rfl ?_;intro g cap w' h1 h2 h3 h4;refine h g cap w' ?_ (Below.grown (Below.refl _ _) h2 hB (λq hq=>(World.ownsRow.lt hown q hq).1)) h2 h3;unfold KW;rw [List.length_append,show ss (r++q)=ss r++ss q by simp [ss]];exact h1
theorem Kjw (hgd:o.guard=none) (s x:Operand) (ho:o.op = .call { callee := .builtin .append,args := #[s,x],argTypes := #[152,152] })
  {B:Nat} {v:Value} {r:List Int} (hs:a.eval s=v) (hown:KW B w v r) {b:Nat} {z:Int} (hx:a.eval x = .slice (some ⟨b,0,none⟩) 1 1) (hc:w.cell? ⟨b,0,none⟩=some (I z)) (hl:r.length<=100000000) (hB:B<=w.heap.size)
  (h : ∀g cap w',KW B w' (slv g (r.length+1) cap) (r++[z])->Below B w w'->w.grownBy w' v.ownBlock->wpList Tryz.prog ops Q rest (a.put o.dst (slv g (r.length+1) cap)) w'):wpList Tryz.prog ops Q (o::rest) a w:=by
 refine KgJ hgd s x ho (q:=[z]) hs hown hx (λj u hj => ?_) (by simp) (by simp;omega) hB λg cap w' h1 h2 h3 _=>h g cap w' h1 h2 h3
 have:j=0:=by have:=(List.getElem?_eq_some_iff.1 hj).1;simp at this;omega
 subst this;simp only [ss,List.map_cons,List.map_nil,List.getElem?_cons_zero,Option.some.injEq] at hj;subst hj;simpa [Addr.add_lit] using hc
end
def Kjq (w:World) (r:List Int) (e:Ending) (w':World):Prop := ∃g c,e = .returned (slv g r.length c)/\Kd 45 w.heap.size w' g c (ss r)/\Ext w w'
theorem Kfi {B:Nat} {w:World} {g c n:Nat} {r:List Int} (h:KW B w (slv g n c) r) (hn:r.length=n):Kd 45 B w g c (ss r):=by
 subst hn;unfold KW at h;unfold Kd;simpa using h
theorem KdV {w : World} {v : Value} {r : List Int} (hR : KT w v r) (hl : r.length <= 1000000) (h64 : ∀z ∈ r, I64 z) (hL : Laid w) :
    Calls Tryz.prog 97 #[v] w (Kjq w r):=by
  obtain ⟨sa,gb,go,cap,rfl,hcp,hS⟩:=hR;obtain ⟨i0,hi,hz0,hz1,hz2⟩:=info_parts Tryz.infoStr;have HS:=hid hS;have H64:=hid h64;have HL:=hid hL;obtain ⟨n,hn⟩ : ∃n,n=r.length:=⟨_,rfl⟩
  rw [<-hn] at hl hcp ⊢;have Hn:=hid hn;clear hS h64 hL hn
  go_enter Tryz.func97,Tryz.ntmps97
  go_wp2_with (at_make;refine wpList_make_own _ rfl _ _ 152 rfl w.heap.size 45 i0 (.string ⟨#[]⟩) 1 Tryz.underlying152 hi hz0 hz1 .i64 .i64 _ n rfl rfl (by omega) (by rw [hz2];omega) (by unfold maxLen;omega) (Nat.le_refl _) ?_;intro w1 hown1 hgrow1)
  have he1:=KR hgrow1;have HO1:=hid (show KW w.heap.size w1 (slv w.heap.size 0 n) [] from hown1);obtain ⟨g0,hg0⟩ : ∃g0,g0=w.heap.size:=⟨_,rfl⟩
  rw [<-hg0] at HO1 ⊢;have Hg0:=hid hg0;clear hown1 hgrow1 hg0
  go_loopw [3,11] (λout idx wr => ∃(i g c:Nat),i<=n/\idx = .int .i64 i/\out=slv g i c/\Hid (KW g0 wr (slv g i c) (r.take i))/\Ext w wr) (λ_ idx _=>n-(intOf idx).toNat)
  case atStart=>exact ⟨0,g0,n,by omega,by go_num,rfl,HO1,he1⟩
  case round =>
    obtain ⟨i,g,c,hi',rfl,rfl,HO,hE⟩:=hrel;generalize wr=X at *
    by_cases hlt:i<n
    · have hii:(i:Int)<(n:Int):=by omega
      have hlr:i<r.length:=by rw [<-Hn.out];exact hlt
      obtain ⟨z,hz⟩ : ∃z,z=r[i]:=⟨_,rfl⟩
      have hcz:=hE.cell (HS.out.cell i (.int .i64 z) (by rw [hz];exact Qg hlr));obtain rfl:=HS.out.addr (by simp;omega);have hz64:=H64.out z (by rw [hz];exact List.getElem_mem hlr);have hof:=hid (Qb (n:=z) (w:=X) hz64.1 hz64.2 (HL.out.ext hE));have Hil:=hid (show (r.take i).length=i by rw [List.length_take];omega);have Hsi:=hid (show r.take (i+1)=r.take i++[z] by rw [List.take_succ_eq_append_getElem hlr,hz]);have hXs:=hE.size;have hg0s:g0=w.heap.size:=Hg0.out;have hsX:g0<=X.heap.size:=by omega
      clear hz hz64 hlr hg0s
      go_wp2_with (first
        | (go_at_call 22;refine hof.out.mono ?_;rintro e W ⟨rfl,hW⟩;have hYW:=hW.size)
        | (at_builtin;refine Kjw rfl _ _ rfl rfl ((HO.out.ext hW).ext ((Ext.refl _).alloc _)) rfl (b:=W.heap.size) (z:=z) (by go_simp) (by rw [Hil.out];omega) (by simp;omega) ?_;intro gg cap2 w8 hO8 hB8 hG8;rw [Hil.out] at hO8 ⊢;rw [<-Hsi.out] at hO8))
      have hE8:Ext w w8:=Below.trans ((hE.trans hW).alloc (.cells #[I z] 45)) (by rw [Hg0.out] at hB8;exact hB8);have HO8:=hid hO8;clear hG8 hB8 hO8;go_wp2_with fail;go_roundw
      case rel=>exact ⟨i+1,_,_,by omega,by go_num,rfl,HO8,hE8⟩
      case measure=>simp [intOf]<;>omega
    · have hie:i=n:=by omega
      subst hie
      have HF:=hid (show Kd 45 g0 X g c (ss r) by
        have:=HO.out;rw [List.take_of_length_le (by rw [<-Hn.out];omega)] at this
        exact Kfi this Hn.out.symm)
      go_wp2_with fail;go_ret;exact ⟨g,c,by rw [<-Hn.out];rfl,by rw [<-Hg0.out];exact HF.out,hE⟩
theorem KlI {w:World} {n:Nat} (hn:n<=1000000) (hL:Laid w) :
  Calls Tryz.prog 103 #[.int .i64 n] w (Kjq w (List.replicate n 0)):=by
 obtain ⟨i0,hi,hz0,hz1,hz2⟩:=info_parts Tryz.infoInt;have HL:=hid hL;clear hL
 go_enter Tryz.func103,Tryz.ntmps103
 go_wp2_with (at_make;refine wpList_make_full _ rfl _ _ 38 rfl w.heap.size 3 i0 (.int .i64 0) 1 Tryz.underlying38 hi hz0 hz1 .i64 .i64 _ _ n rfl rfl (by omega) (by omega) (by rw [hz2];omega) (by unfold maxLen;omega) (Nat.le_refl _) ?_;intro w1 hown1 hgrow1)
 have hE1:=KR hgrow1;have hb0:Kd 3 w.heap.size w1 w.heap.size n (is (List.replicate n 0)):=J7 (KbO hown1) (by simp);have hlo:=hid (KdV (w:=w1) (v:=slv w.heap.size n n) (r:=List.replicate n 0) ⟨_,w.heap.size,0,n,by simp,by simp,hb0.sl⟩ (by simpa using hn) (λz hz=>by have:=(List.mem_replicate.1 hz).2;subst this;unfold I64;omega) (HL.out.ext hE1));clear hb0 hown1 hgrow1;go_wp2_with fail;refine hlo.out.mono ?_;rintro e w2 ⟨g,c,rfl,hO,hE2⟩;have HO:=hid (hO.mono hE1.size);have hE:=hE1.trans hE2;clear hO;go_wp2_with fail;go_ret;exact ⟨g,c,by rw [List.length_replicate];rfl,HO.out,hE⟩
def Kn1 (w:World) (M:Mx) (e:Ending) (w':World):Prop := ∃v ad,e = .returned v/\LrX w.heap.size w' v M ad/\Ext w w'
theorem LrX.lt {B:Nat} {w:World} {v:Value} {F:Mx} {ad:List (Nat×Nat)} (h:LrX B w v F ad) : ∀i (_:i<ad.length) (_:i<F.length),0<F[i].length->B<=ad[i].1/\ad[i].1<w.heap.size :=
 λi a b c=>(h.row i b a c).lt
theorem KcF {w:World} {v:Value} {M:Mx} {n:Nat} (hM:KJ w v M) (hR:Ku n M) (h0:0<n) (hl:M.length<=1000000) (hn:n<=1000000) (h64 : ∀r∈M,∀z∈r,I64 z) (hL:Laid w) :
  Calls Tryz.prog 56 #[v] w (Kn1 w M):=by
 obtain ⟨sa,gb,go,cap,vs,rfl,hcap,hvl,hS,hr⟩:=hM;have HS:=hid hS;have HV:=hid hvl;have HR:=hid hr;have HRe:=hid hR;have H64:=hid h64;have HL:=hid hL;clear hS hvl hr hR h64 hL
 go_enter Tryz.func56,Tryz.ntmps56
 go_wp2_with fail
 go_loopw [3,8] (λout idx wr => ∃(i:Nat) (ad:List (Nat×Nat)),i<=M.length/\idx = .int .i64 i/\Hid (LrX w.heap.size wr out (M.take i) ad)/\Ext w wr) (λ_ idx _=>M.length-(intOf idx).toNat)
 case atStart=>exact ⟨0,[],by omega,by go_num,hid (LrX.nil _ _),Ext.refl _⟩
 case round =>
  obtain ⟨i,ad,hi',rfl,hV,hE⟩:=hrel;generalize wr=X at *
  by_cases hlt:i<M.length
  ·have hii:(i:Int)<(M.length:Int):=by omega
   obtain rfl:=HS.out.addr (by rw [HV.out];omega);obtain ⟨sr,br,or,cr,hrow,hrc,hSr⟩:=KJ.row HS.out HV.out HR.out hlt;obtain ⟨r,hr⟩ : ∃r,r=M[i]:=⟨_,rfl⟩
   have hrn:r.length=n:=by rw [hr];exact HRe.out _ (List.getElem_mem hlt)
   have hr64 : ∀z∈r,I64 z:=by rw [hr];exact H64.out _ (List.getElem_mem hlt)
   have Hsn:=hid (Zh hlt);rw [<-hr] at hrow hrc hSr Hsn;have hlo:=hid (KdV (w:=X) (v := .slice sr r.length cr) (r:=r) ⟨sr,br,or,cr,rfl,hrc,hSr.ext hE⟩ (by omega) hr64 (HL.out.ext hE));have hrow':=hE.cell hrow;have Hil:=hid (show (M.take i).length=i by rw [List.length_take];omega);have Hlt:=hid hV.out.lt;have hXw:=hE.size;have Hrn:=hid hrn;rw [hrn] at hrow';clear hrow hSr hr hr64 hrc;rw [hrn] at hlo;clear hrn;go_wp2_with fail;refine hlo.out.mono ?_;rintro e W ⟨g0,c0,rfl,hO,hE2⟩;have HO:=hid hO;have hEW:=hE.trans hE2;rw [Hrn.out]
   have Hne:=hid (show 0<r.length -> ∀i (h:i<ad.length) (h':i<(M.take _).length),0<(M.take _)[i].length->ad[i].1≠g0 from λ_ i a b c=>by
    have h1:=HO.out.lt.1;have h2:=(Hlt.out i a b c).2
    omega)
   have hWs:=hEW.size;clear hO hlo;go_wp2_with (at_builtin;refine Ke5 rfl _ _ rfl (B:=w.heap.size) rfl ((hV.out.ext hE2).ext ((Ext.refl _).alloc _)) rfl (b:=W.heap.size) (r:=r) (g0:=g0) (c0:=c0) (by rw [Hrn.out,Qo h0];go_simp) (λ_=>(HO.out.mono hXw).ext ((Ext.refl _).alloc _)) Hne.out (by rw [Hil.out];omega) (by simp;omega) ?_;intro gg cap2 w8 hO8 hB8 hG8;rw [Hil.out,<-Hsn.out] at hO8;rw [Hil.out])
   have hE8:Ext w w8:=Below.trans (hEW.alloc (.cells #[slv g0 n c0] 152)) hB8;have HO8:=hid hO8;clear hG8 hB8 hO8;go_wp2_with fail;go_roundw
   case rel=>exact ⟨i+1,_,by omega,by go_num,HO8,hE8⟩
   case measure=>simp [intOf]<;>omega
  ·have hie:i=M.length:=by omega
   subst hie;have HF:=hid (show LrX w.heap.size X _ M ad by have:=hV.out;rw [List.take_length] at this;exact this);go_wp2_with fail;go_ret;exact ⟨_,ad,rfl,HF.out,hE⟩
theorem Kef {m : Nat} (hm : m <= 1000000) {b o c : Nat} {z : Int} {w : World} (hc : w.cell? ⟨b, o, none⟩ = some (I z)) :
    Calls Tryz.prog 65 #[.slice (some ⟨b,o,none⟩) 1 c,.int .i64 m] w λe w' => ∃g cap,e = .returned (slv g m cap)/\Kd 45 w.heap.size w' g cap (ss (List.replicate m z))/\Ext w w':=by
  obtain ⟨i0,hi,hz0,hz1,hz2⟩:=info_parts Tryz.infoStr;have hmul:=hid (Tryz.bits_Mul 1 m (by omega) (by omega));rw [Nat.one_mul,Nat.div_eq_of_lt (by omega),Nat.mod_eq_of_lt (by omega)] at hmul
  go_enter Tryz.func65,Tryz.ntmps65
  go_wp2_with (first
    | (go_at_call 108;refine (hmul.out _).mono ?_;rintro e w1 ⟨rfl,hw⟩;have hw':=hw.symm;clear hw;subst hw')
    | (at_make;refine wpList_make_full _ rfl _ _ 108 rfl w.heap.size 45 i0 (.string ⟨#[]⟩) 1 Tryz.underlying108 hi hz0 hz1 .i64 .i64 _ _ m rfl rfl (by omega) (by omega) (by rw [hz2];omega) (by unfold maxLen;omega) (Nat.le_refl _) ?_;intro w1 hown1 hgrow1))
  have he1:=KR hgrow1
  have hb1:w1.heap[w.heap.size]? = some (.cells (fill z 0 m).toArray 45 (0,0)):=by
    have hO:Kd 45 w.heap.size w1 w.heap.size m (fill z 0 m):=by
      have e:(madeCells (Value.string ⟨#[]⟩).cells (m*1)).toList=fill z 0 m:=by
        rw [show (Value.string ⟨#[]⟩).cells = #[.string ⟨#[]⟩] from rfl,toList_madeCells_one,Nat.mul_one];simp [fill]
      rw [e] at hown1;unfold Kd;rw [JX z (Nat.zero_le m)]
      exact hown1
    obtain ⟨cur,_,h2,h3,_,h5,h6⟩:=hO.parts;rw [JX z (Nat.zero_le m)] at h6
    have:cur=(fill z 0 m).toArray:=by
      apply Array.ext';rw [<-h6,List.take_of_length_le (by rw [Array.length_toList,h5];exact Nat.le_refl _)]
    rw [this] at h2;exact h2
  have hc1:=he1.cell hc;have hlb:=World.block_lt_of_cell? _ _ hc;have Hb1:=hid hb1;have Hfl:=hid (λn (h:n<=m)=>JX z h);clear hgrow1 hown1 hb1;obtain ⟨g,hg⟩ : ∃g,g=w.heap.size:=⟨_,rfl⟩
  have Hg:=hid hg;rw [<-hg] at Hb1 hlb ⊢;clear hg;have hinfo:(Tryz.prog.info? 45).map (·.size)=some 1:=by rw [hi];simp [hz1]
  have Hinfo:=hid hinfo;clear hinfo
  have hrun:=run_copy_row (P:=Tryz.prog) w1 108 108 3 45 g 0 m m ⟨b,o,none⟩ 1 c (fill z 0 m).toArray 45 (List.replicate (min 1 m) (I z)) Tryz.underlying108 Hinfo.out Hb1.out (by simp)
    (λj v hj=>by
      have hj0:j=0:=by have:=(List.getElem?_eq_some_iff.1 hj).1;simp at this;omega
      subst hj0;rw [List.getElem?_replicate] at hj;split at hj
      · rw [<-hj];exact hc1
      · cases hj) (by simp [Hfl.out 0 (Nat.zero_le m)];omega) (λv hv=>by rw [List.mem_replicate] at hv;rw [hv.2];rfl)
  have hsp:=KcB z (n:=0) (m:=m) (k:=min 1 m) (by omega);unfold splice at hsp;rw [show ((fill z 0 m).toArray.toList.take 0++List.replicate (min 1 m) (I z)++(fill z 0 m).toArray.toList.drop (0+(List.replicate (min 1 m) (I z)).length))=fill z (0+min 1 m) m by rw [<-hsp];simp] at hrun;rw [Nat.zero_add,List.length_replicate] at hrun;have Hrun:=hid hrun;clear hrun hsp;go_wp2_with fail;rw [Hrun.out];have he2:Ext w (w1.setRow g (fill z (min 1 m) m).toArray):=below_setRow he1 (by rw [Hg.out];exact Nat.le_refl _) _;have hb2:(w1.setRow g (fill z (min 1 m) m).toArray).heap[g]? = some (.cells (fill z (min 1 m) m).toArray 45 (0,0)):=setRow_heap w1 g _ _ 45 _ Hb1.out;have Hb2:=hid hb2;clear Hrun Hb1 hb2;generalize w1.setRow g (fill z (min 1 m) m).toArray=w2 at *;obtain ⟨q,hq⟩ : ∃q,q=min 1 m:=⟨_,rfl⟩
  have Hq:=hid hq;rw [<-hq] at Hb2 ⊢;have hqm:q<=m:=by omega
  have hq1:0<m->0<q:=λh=>by omega
  have Hq1:=hid hq1;clear hq hq1;go_wp2_with fail
  go_loopw [8] (λnn wr => ∃n:Nat,n<=m/\nn = .int .i64 n/\Hid (0<m->0<n)/\Hid (wr.heap[g]? = some (.cells (fill z n m).toArray 45 (0,0)))/\Ext w wr) (λnn _=>m-(intOf nn).toNat)
  case atStart=>exact ⟨q,hqm,by go_num,Hq1,Hb2,he2⟩
  case round =>
    obtain ⟨n,hn,rfl,Hn,Hb,hE⟩:=hrel;generalize wr=X at *
    by_cases hlt:n<m
    · have hni:(n:Int)<(m:Int):=by omega
      have hn0:0<n:=Hn.out (by omega);obtain ⟨k,hk⟩ : ∃k,k=min n (m-n):=⟨_,rfl⟩
      have hk0:0<k:=by omega
      have hkm:n+k<=m:=by omega
      have Hk:=hid hk;have Hsp:=hid (KcB z hkm);clear hk;have hmn : ¬m=n:=by omega
      have Hb5:=hid (show X.drew.heap[g]? = some (.cells (fill z n m).toArray 45 (0,0)) from Hb.out);have hE6:=hE.drew
      have hrun:=run_copy_row (P:=Tryz.prog) X.drew 108 108 3 45 g n (m-n) (m-n) ⟨g,0,none⟩ n m (fill z n m).toArray 45 (List.replicate k (I z)) Tryz.underlying108 Hinfo.out Hb5.out (by rw [List.length_replicate,Hk.out])
        (λj v hj=>by
          have hj0:j<k:=by have:=(List.getElem?_eq_some_iff.1 hj).1;simpa using this
          have hjn:j<n:=by have:=Hk.out;omega
          rw [List.getElem?_replicate,if_pos hj0] at hj;rw [<-hj];simp only [Addr.add_lit,Nat.zero_add,World.cell?,Hb5.out];have:=KmH z (m:=m) hjn
          simpa using this) (by simp only [List.size_toArray,Hfl.out n hn,List.length_replicate];exact hkm) (λv hv=>by rw [List.mem_replicate] at hv;rw [hv.2];rfl)
      have hsp:=Hsp.out;unfold splice at hsp;rw [show ((fill z n m).toArray.toList.take n++List.replicate k (I z)++(fill z n m).toArray.toList.drop (n+(List.replicate k (I z)).length))=fill z (n+k) m by rw [<-hsp];simp,List.length_replicate] at hrun;have hE7:Ext w (X.drew.setRow g (fill z (n+k) m).toArray):=below_setRow hE6 (by rw [Hg.out];exact Nat.le_refl _) _;have Hb7:=hid (setRow_heap X.drew g _ (fill z (n+k) m).toArray 45 _ Hb5.out);obtain ⟨Y,hY⟩ : ∃Y,Y=X.drew.setRow g (fill z (n+k) m).toArray:=⟨_,rfl⟩
      rw [<-hY] at hrun hE7 Hb7;clear hsp hY hE6 Hb5;go_wp2_with fail
      go_region
      clear hrun;go_wp2_with fail;go_roundw
      case rel=>exact ⟨n+k,hkm,by go_num,hid (λ_=>by omega),Hb7,hE7⟩
      case measure=>simp [intOf]<;>omega
    · have hnm:n=m:=by omega
      subst hnm;go_wp2_with fail;go_ret;refine ⟨g,n,rfl,?_,hE⟩;refine Kd.of (by rw [Hg.out];exact Nat.le_refl _) Hb.out (by simp) (by unfold maxLen;omega) (by simp [Hfl.out n hn]) ?_;rw [KmG];exact List.take_of_length_le (by simp)
end
end Go.Proofs.YtdmaofimeknkbaaGreatDoor
