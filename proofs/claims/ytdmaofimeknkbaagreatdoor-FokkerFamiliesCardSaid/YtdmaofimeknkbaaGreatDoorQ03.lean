/- Part 3 of the proof of the claim: contracts of the functions that it reaches, and plain laws; no condition. -/
import Derived.Test.YtdmaofimeknkbaaGreatDoorQ01
import Derived.Test.YtdmaofimeknkbaaGreatDoorQ02
import Derived.Lib.ConvBytes
import Derived.RegionTactic
import Derived.BigRegion
set_option maxRecDepth 100000
set_option maxHeartbeats 20000000
namespace Go.Proofs.YtdmaofimeknkbaaGreatDoor
section
def vP:List Nat->Nat
 | []=>0
 | d::r=>d+1000000000*vP r
def pc (u:Nat):List Nat:=if h:u=0 then [] else u%1000000000::pc (u/1000000000)
termination_by u
decreasing_by omega
def tl:List Nat->List Nat
 | []=>[]
 | d::r=>if d=0/\tl r=[] then [] else d::tl r
def Kz (l:List Nat):Prop := ∀d∈l,d<1000000000
theorem Qz:pc 0=[]:=by rw [pc];rfl
theorem Jo {u:Nat} (h:u≠0):pc u=u%1000000000::pc (u/1000000000):=by rw [pc,dif_neg h]
theorem ZO (u:Nat):vP (pc u)=u:=by
 induction u using Nat.strongRecOn with
 | _ u ih =>
  by_cases h:u=0
  ·subst h;rw [Qz];rfl
  ·rw [Jo h];simp only [vP];rw [ih _ (by omega)];omega
theorem KL (u:Nat):Kz (pc u):=by
 induction u using Nat.strongRecOn with
 | _ u ih =>
  by_cases h:u=0
  ·subst h;rw [Qz];intro d hd;cases hd
  ·rw [Jo h];intro d hd
   rcases List.mem_cons.1 hd with rfl | hd
   ·omega
   ·exact ih _ (by omega) d hd
theorem Kd4 {u:Nat}:pc u=[]↔u=0:=by
 constructor
 ·intro h;have:=ZO u;rw [h] at this;exact this.symm
 ·rintro rfl;exact Qz
theorem KoP {d u:Nat} (hd:d<1000000000) (h : ¬(d=0/\u=0)):pc (d+1000000000*u)=d::pc u:=by
 rw [Jo (by omega)]
 congr 1
 ·omega
 ·congr 1;omega
theorem YH {d:Nat} {l:List Nat}:Kz (d::l)↔d<1000000000/\Kz l:=by
 constructor
 ·intro h;exact ⟨h d (by simp),λe he=>h e (by simp [he])⟩
 ·rintro ⟨h1,h2⟩ e he
  rcases List.mem_cons.1 he with rfl | he
  ·exact h1
  ·exact h2 e he
theorem Kac {l:List Nat} (h:Kz l):tl l=pc (vP l):=by
 induction l with
 | nil=>rw [tl,vP,Qz]
 | cons d r ih =>
  obtain ⟨hd,hr⟩:=YH.1 h;simp only [tl,vP];rw [ih hr]
  by_cases h0:d=0/\pc (vP r)=[]
  ·rw [if_pos h0,h0.1,Kd4.1 h0.2,Qz]
  ·rw [if_neg h0,KoP hd (λh=>h0 ⟨h.1,Kd4.2 h.2⟩)]
theorem KeG (l:List Nat):tl (l++[0])=tl l:=by
 induction l with
 | nil=>rfl
 | cons d r ih=>simp only [List.cons_append,tl,ih]
theorem KeZ (l:List Nat) {d:Nat} (h:d≠0):tl (l++[d])=l++[d]:=by
 induction l with
 | nil=>simp [tl,h]
 | cons e r ih=>simp only [List.cons_append,tl,ih];rw [if_neg (by simp)]
theorem KfN (l:List Nat):tl l=l.take (tl l).length:=by
 induction l with
 | nil=>rfl
 | cons d r ih =>
  simp only [tl]
  by_cases h:d=0/\tl r=[]
  ·rw [if_pos h];rfl
  ·rw [if_neg h,List.length_cons,List.take_succ_cons,<-ih]
theorem Kcn (l:List Nat):(tl l).length<=l.length:=by
 rw [KfN l];simp;omega
theorem Kgr {l:List Nat} {k:Nat} (hk:k<l.length) (h:l[k]=0) (ht:tl l=tl (l.take (k+1))):tl l=tl (l.take k):=by
 rw [ht,List.take_succ_eq_append_getElem hk,h,KeG]
theorem Kh7 {l:List Nat} {k:Nat} (hk:k<l.length) (h:l[k]≠0) (ht:tl l=tl (l.take (k+1))):(tl l).length=k+1:=by
 rw [ht,List.take_succ_eq_append_getElem hk,KeZ _ h];simp;omega
theorem ZH (a b:List Nat):vP (a++b)=vP a+1000000000^a.length*vP b:=by
 induction a with
 | nil=>simp [vP]
 | cons d r ih =>
  simp only [List.cons_append,vP,ih,List.length_cons,Nat.pow_succ];rw [Nat.mul_add,Nat.mul_comm (1000000000^r.length) 1000000000,Nat.mul_assoc];omega
theorem KfO {l:List Nat} (h:Kz l):vP l<1000000000^l.length:=by
 induction l with
 | nil=>simp [vP]
 | cons d r ih =>
  obtain ⟨hd,hr⟩:=YH.1 h;have:=ih hr;simp only [vP,List.length_cons,Nat.pow_succ];generalize 1000000000^r.length=P at *;omega
theorem Kbr {u k:Nat} (h:u<1000000000^k):(pc u).length<=k:=by
  induction k generalizing u with
  | zero => have : u = 0 := by simpa using h
            subst this;rw [Qz];simp
  | succ k ih =>
    by_cases h0:u=0
    · subst h0;rw [Qz];simp
    · rw [Jo h0,List.length_cons]
      rw [Nat.pow_succ] at h;have:=ih (u:=u/1000000000) (by omega);omega
theorem XW {u:Nat} (h:u≠0):1000000000^((pc u).length-1)<=u:=by
 induction u using Nat.strongRecOn with
 | _ u ih =>
  rw [Jo h,List.length_cons]
  by_cases h1:u/1000000000=0
  ·rw [h1,Qz];simp;omega
  ·have:=ih (u/1000000000) (by omega) h1
   have hl:1<=(pc (u/1000000000)).length:=by
    rw [Jo h1,List.length_cons];omega
   obtain ⟨k,hk⟩ : ∃k,(pc (u/1000000000)).length=k+1:=⟨(pc (u/1000000000)).length-1,by omega⟩
   rw [hk] at this ⊢;rw [show k+1-1=k from rfl] at this;rw [show k+1+1-1=k+1 from rfl,Nat.pow_succ];omega
theorem Qy (u:Nat):(pc u).length<=Lib.nDigits u:=by
 refine Kbr (Nat.lt_of_lt_of_le (Lib.lt_pow_nDigits u) ?_);exact Nat.pow_le_pow_left (by omega) _
theorem Jy (n:Nat):vP (List.replicate n 0)=0:=by
 induction n with
 | zero=>rfl
 | succ n ih=>simp [List.replicate_succ,vP,ih]
theorem KbJ (l:List UInt8) (h : ∀c∈l,Z5 c):Zp 0 l<10^l.length:=by
 induction l with
 | nil=>simp [XI]
 | cons c r ih =>
  have hc:=h c (by simp);have:=ih (λx hx=>h x (by simp [hx]));obtain ⟨_,_,e3⟩:=KdG hc;rw [QE,Y7,List.length_cons,Nat.pow_succ];generalize 10^r.length=P at *;generalize dv c=d at *;have:d*P<=9*P:=Nat.mul_le_mul_right P (by omega);rw [Nat.mul_zero,Nat.zero_add];omega
theorem Kod (A M Z:List UInt8) (hM : ∀c∈M,Z5 c) (hZ : ∀c∈Z,Z5 c) (h:M.length=9\/A=[]/\M.length<=9) :
  Zp 0 (A++M++Z)/10^Z.length%1000000000=Zp 0 M:=by
 have h1:=KbJ M hM;have h2:=KbJ Z hZ;rw [YI,YI,Y7 Z,Y7 M (Zp 0 A)]
 have hd:((Zp 0 A*10^M.length+Zp 0 M)*10^Z.length+Zp 0 Z)/10^Z.length=Zp 0 A*10^M.length+Zp 0 M:=by
  rw [Nat.add_comm,Nat.add_mul_div_right _ _ (Nat.pow_pos (by omega)),Nat.div_eq_of_lt h2,Nat.zero_add]
 rw [hd]
 rcases h with h | ⟨rfl,h⟩
 ·rw [h] at h1 ⊢;omega
 ·rw [XI,Nat.zero_mul,Nat.zero_add];refine Nat.mod_eq_of_lt (Nat.lt_of_lt_of_le h1 ?_);exact Nat.pow_le_pow_right (by omega) h
theorem KkE (u k e:Nat) (he:e+9*k=(Lib.decDigits u).length) :
  Zp 0 (((Lib.decDigits u).drop (e-9)).take (e-(e-9)))=u/1000000000^k%1000000000:=by
 have hd:=XQ u;have hv:=ZP u;generalize Lib.decDigits u=l at *;have hZ:(l.drop e).length=9*k:=by rw [List.length_drop];omega
 have hA:l=l.take (e-9)++(l.drop (e-9)).take (e-(e-9))++l.drop e:=by
  rw [List.append_assoc]
  have:(l.drop (e-9)).take (e-(e-9))++l.drop e=l.drop (e-9):=by
   have h:=List.take_append_drop (e-(e-9)) (l.drop (e-9));rw [List.drop_drop,show e-9+(e-(e-9))=e by omega] at h;exact h
  rw [this,List.take_append_drop]
 have hm:=Kod (l.take (e-9)) ((l.drop (e-9)).take (e-(e-9))) (l.drop e)
  (λc hc=>hd c (List.mem_of_mem_drop (List.mem_of_mem_take hc))) (λc hc=>hd c (List.mem_of_mem_drop hc)) ?_
 ·rw [<-hA,hZ,hv] at hm;rw [<-hm,Nat.pow_mul]
 ·have hl:((l.drop (e-9)).take (e-(e-9))).length=e-(e-9):=by
   rw [List.length_take,List.length_drop];omega
  rw [hl]
  by_cases h9:9<=e
  ·left;omega
  ·right
   refine ⟨?_,by omega⟩;rw [show e-9=0 by omega];rfl
def pcl (u k:Nat):List Nat:=(List.range k).map λi=>u/1000000000^i%1000000000
theorem Jp (u k:Nat):(pcl u k).length=k:=by simp [pcl]
theorem KhE (u k:Nat):pcl u (k+1)=pcl u k++[u/1000000000^k%1000000000]:=by
 simp [pcl,List.range_succ]
theorem Kla (u k:Nat):Kz (pcl u k):=by
 intro d hd;simp only [pcl,List.mem_map] at hd;obtain ⟨i,_,rfl⟩:=hd;exact Nat.mod_lt _ (by omega)
theorem KqB (u k:Nat):vP (pcl u k)=u%1000000000^k:=by
 induction k with
 | zero=>simp [pcl,vP,Nat.mod_one]
 | succ k ih =>
  rw [KhE,ZH,ih,Jp,Nat.pow_succ];simp only [vP,Nat.mul_zero,Nat.add_zero];exact (Nat.mod_mul).symm
theorem Kqx {u k:Nat} (h:Lib.nDigits u<=9*k):tl (pcl u k)=pc u:=by
 rw [Kac (Kla u k),KqB,Nat.mod_eq_of_lt];refine Nat.lt_of_lt_of_le (Lib.lt_pow_nDigits u) ?_;rw [show (1000000000:Nat)=10^9 from rfl,<-Nat.pow_mul];exact Nat.pow_le_pow_right (by omega) h
def YS:Nat->Nat->List UInt8
 | 0,_=>[]
 | k+1,n=>UInt8.ofNat (48+n%10)::YS k (n/10)
theorem JP (k n:Nat):(YS k n).length=k:=by
 induction k generalizing n with
 | zero=>rfl
 | succ k ih=>simp [YS,ih]
theorem KkH (k n:Nat):YS (k+1) n=YS k n++[UInt8.ofNat (48+n/10^k%10)]:=by
 induction k generalizing n with
 | zero=>simp [YS]
 | succ k ih =>
  rw [YS,ih (n/10)];simp only [YS,List.cons_append];rw [Nat.div_div_eq_div_mul,Nat.pow_succ,Nat.mul_comm 10]
theorem Kg0 (u:Nat):(Lib.decDigits u).reverse=YS (Lib.nDigits u) u:=by
 induction u using Nat.strongRecOn with
 | _ u ih =>
  rw [Lib.decDigits]
  by_cases h:u<10
  ·rw [dif_pos h,Lib.nDigits_small h];simp [YS,Nat.mod_eq_of_lt h]
  ·rw [dif_neg h,Lib.nDigits_big h,List.reverse_append,ih (u/10) (by omega)];rfl
end
section
open Go.RowKit
open Lib (hid)
theorem Tryz.infoU64:(Tryz.prog.info? 191).map (λi=>(i.zero,i.size,i.bytes))=some (some (.int .u64 0),1,8):=by kernel_rfl
theorem Tryz.infoU8:(Tryz.prog.info? 5).map (λi=>(i.zero,i.size,i.bytes))=some (some (.int .u8 0),1,1):=by kernel_rfl
abbrev slv (g n cap:Nat):Value := .slice (some ⟨g,0,none⟩) n cap
def KG (B:Nat) (w:World) (g cap:Nat) (p:List Nat):Prop:=w.ownsRow B 191 1 (slv g p.length cap) p.length (us p)
theorem QT {w w':World} (h:Ext w w') (row:Option Nat):w.grownBy w' row:=⟨Below.os h,Below.tape h,Below.output h,Below.size h,λk hk _=>Below.block h k hk⟩
theorem KR {w w':World} (h:w.grownBy w' none):Ext w w':=Ext.mk' ⟨h.os,h.tape,h.output,h.size,λk hk=>h.block k hk (by simp)⟩
theorem KG.ext {B:Nat} {w w':World} {g cap:Nat} {p:List Nat} (h:KG B w g cap p) (he:Ext w w'):KG B w' g cap p :=
 World.ownsRow.kept h (QT he none) (.inr (by simp [Value.ownBlock]))
theorem KG.lt {B:Nat} {w:World} {g cap:Nat} {p:List Nat} (h:KG B w g cap p):B<=g/\g<w.heap.size:=World.ownsRow.lt h g rfl
theorem KG.cell {B:Nat} {w:World} {g cap:Nat} {p:List Nat} (h:KG B w g cap p) {j:Nat} (hj:j<p.length):w.cell? ⟨g,j,none⟩=some (.int .u64 (p[j]:Nat)):=by
 rw [World.ownsRow.cellAt h j (by omega)];exact ZY hj
theorem KG.frozen {B:Nat} {w:World} {g cap:Nat} {p:List Nat} (h:KG B w g cap p) (j:Nat):w.frozen? ⟨g,j,none⟩=false:=World.ownsRow.frozenAt h j
theorem KG.sl {B:Nat} {w:World} {g cap:Nat} {p:List Nat} (h:KG B w g cap p):Sl w (some ⟨g,0,none⟩) g 0 (us p):=by
 refine ⟨λ_=>rfl,λi x hx => ?_⟩
 have hi:i<p.length:=by
  rcases Nat.lt_or_ge i p.length with hi | hi
  ·exact hi
  ·rw [List.getElem?_eq_none (by simpa using hi)] at hx;cases hx
 rw [ZY hi] at hx;rw [Nat.zero_add,h.cell hi];exact hx
theorem KG.cap {B:Nat} {w:World} {g cap:Nat} {p:List Nat} (h:KG B w g cap p):p.length<=cap:=by
 rcases h.2 with ⟨h',_⟩ | ⟨g',cap',cur,h',_,_,hc,_⟩
 ·simp at h'
 ·simp only [slv,Value.slice.injEq,Option.some.injEq,Addr.mk.injEq,and_true,true_and] at h';obtain ⟨_,rfl⟩:=h';exact hc
theorem KqA (p:List Nat) (j v:Nat):us (p.set j v)=(us p).set j (.int .u64 (v:Nat)):=by simp [us,List.map_set]
theorem KG.set {B:Nat} {w:World} {g cap:Nat} {p:List Nat} (h:KG B w g cap p) (j v:Nat) :
  KG B (w.setCell ⟨g,j,none⟩ (.int .u64 (v:Nat))) g cap (p.set j v)/\w.grownBy (w.setCell ⟨g,j,none⟩ (.int .u64 (v:Nat))) (some g):=by
 obtain ⟨h1,h2⟩:=World.ownsRow.stored h j (.int .u64 (v:Nat));refine ⟨?_,h2⟩;unfold KG;rw [KqA,List.length_set];exact h1
theorem KG.take {B:Nat} {w:World} {g cap:Nat} {p:List Nat} (h:KG B w g cap p) (k:Nat) (hk:k<=p.length):KG B w g cap (p.take k):=by
 rcases h.2 with ⟨h',_⟩ | ⟨g',cap',cur,h',hB,hh,hc,hm,hs,ht⟩
 ·simp at h'
 ·simp only [slv,Value.slice.injEq,Option.some.injEq,Addr.mk.injEq,and_true,true_and] at h';obtain ⟨rfl,rfl⟩:=h';have e:(p.take k).length=k:=by rw [List.length_take];omega
  refine ⟨by simp,.inr ⟨g,cap,cur,rfl,hB,hh,by omega,hm,hs,?_⟩⟩;rw [e,Nat.mul_one];rw [Nat.mul_one] at ht;simp only [us,List.map_take] at ht ⊢;rw [<-ht,List.take_take]
  congr 1;omega
theorem KG.mono {B B':Nat} {w:World} {g cap:Nat} {p:List Nat} (h:KG B w g cap p) (hB:B'<=B):KG B' w g cap p:=by
 refine ⟨h.1,?_⟩
 rcases h.2 with h' | ⟨g',cap',cur,h',hB',r⟩
 ·exact .inl h'
 ·exact .inr ⟨g',cap',cur,h',by omega,r⟩
def Kkq (B:Nat) (w:World) (v:Value) (u:Nat):Prop := ∃g cap,v=slv g (pc u).length cap/\KG B w g cap (pc u)
theorem KG.tl {B:Nat} {w:World} {g cap:Nat} {p:List Nat} (h:KG B w g cap p):KG B w g cap (tl p):=by
 rw [KfN p];exact h.take _ (Kcn p)
theorem YC (k:IntKind) (n:Int) : ∀u∈[Value.int k n],u.oneCell'=true:=by intro u hu;simp at hu;subst hu;rfl
theorem KoM (b:ByteArray) : ∀u∈[Value.string b],u.oneCell'=true:=by intro u hu;simp at hu;subst hu;rfl
def Kd (T:TypeId) (B:Nat) (w:World) (g cap:Nat) (xs:List Value):Prop:=w.ownsRow B T 1 (slv g xs.length cap) xs.length xs
theorem Kd.parts {T:TypeId} {B:Nat} {w:World} {g cap:Nat} {xs:List Value} (h:Kd T B w g cap xs) :
  ∃cur,B<=g/\w.heap[g]? = some (.cells cur T (0,0))/\xs.length<=cap/\cap<=maxLen/\cur.size=cap/\cur.toList.take xs.length=xs:=by
 rcases h.2 with ⟨h',_⟩ | ⟨g',cap',cur,h',hB,hh,hc,hm,hs,ht⟩
 ·simp at h'
 ·simp only [slv,Value.slice.injEq,Option.some.injEq,Addr.mk.injEq,and_true,true_and] at h';obtain ⟨rfl,rfl⟩:=h';exact ⟨cur,hB,hh,hc,hm,by omega,by simpa using ht⟩
theorem Kd.of {T:TypeId} {B:Nat} {w:World} {g cap:Nat} {xs:List Value} {cur:Array Value} (hB:B<=g) (hh:w.heap[g]? = some (.cells cur T (0,0))) (hc:xs.length<=cap) (hm:cap<=maxLen) (hs:cur.size=cap) (ht:cur.toList.take xs.length=xs):Kd T B w g cap xs :=
 ⟨by simp,.inr ⟨g,cap,cur,rfl,hB,hh,hc,hm,by omega,by simpa using ht⟩⟩
theorem Kd.row {T:TypeId} {B:Nat} {w:World} {g cap:Nat} {xs:List Value} (h:Kd T B w g cap xs) {n:Nat} (hn:xs.length=n):w.ownsRow B T 1 (slv g n cap) n xs:=by subst hn;exact h
theorem Kd.of_row {T:TypeId} {B:Nat} {w:World} {g cap:Nat} {xs:List Value} {n:Nat} (h:w.ownsRow B T 1 (slv g n cap) n xs):Kd T B w g cap xs:=by
 have hn:xs.length=n:=by have:=h.1;omega
 unfold Kd;rw [hn];exact h
theorem Kd.ext {T:TypeId} {B:Nat} {w w':World} {g cap:Nat} {xs:List Value} (h:Kd T B w g cap xs) (he:Ext w w'):Kd T B w' g cap xs :=
 World.ownsRow.kept h (QT he none) (.inr (by simp [Value.ownBlock]))
theorem Kd.lt {T:TypeId} {B:Nat} {w:World} {g cap:Nat} {xs:List Value} (h:Kd T B w g cap xs):B<=g/\g<w.heap.size:=World.ownsRow.lt h g rfl
theorem Kd.other {T:TypeId} {B:Nat} {w w':World} {g cap:Nat} {xs:List Value} {r:Nat} (h:Kd T B w g cap xs) (hg:w.grownBy w' (some r)) (hne:g≠r):Kd T B w' g cap xs :=
 World.ownsRow.kept h hg (.inr (by simp [Value.ownBlock,hne]))
theorem Kd.cell {T:TypeId} {B:Nat} {w:World} {g cap:Nat} {xs:List Value} (h:Kd T B w g cap xs) {j:Nat} (hj:j<xs.length):w.cell? ⟨g,j,none⟩=some xs[j]:=by
 rw [World.ownsRow.cellAt h j (by omega)];exact List.getElem?_eq_getElem hj
theorem Kd.frozen {T:TypeId} {B:Nat} {w:World} {g cap:Nat} {xs:List Value} (h:Kd T B w g cap xs) (j:Nat):w.frozen? ⟨g,j,none⟩=false:=World.ownsRow.frozenAt h j
theorem Kd.sl {T:TypeId} {B:Nat} {w:World} {g cap:Nat} {xs:List Value} (h:Kd T B w g cap xs):Sl w (some ⟨g,0,none⟩) g 0 xs:=by
 refine ⟨λ_=>rfl,λi x hx => ?_⟩;obtain ⟨hi,hx⟩:=List.getElem?_eq_some_iff.1 hx;rw [Nat.zero_add,h.cell hi,hx]
theorem Kd.cap {T:TypeId} {B:Nat} {w:World} {g cap:Nat} {xs:List Value} (h:Kd T B w g cap xs):xs.length<=cap:=h.parts.choose_spec.2.2.1
theorem Kd.set {T:TypeId} {B:Nat} {w:World} {g cap:Nat} {xs:List Value} (h:Kd T B w g cap xs) (j:Nat) (v:Value) :
  Kd T B (w.setCell ⟨g,j,none⟩ v) g cap (xs.set j v)/\w.grownBy (w.setCell ⟨g,j,none⟩ v) (some g):=by
 obtain ⟨h1,h2⟩:=World.ownsRow.stored h j v;refine ⟨?_,h2⟩;unfold Kd;rw [List.length_set];exact h1
theorem Kd.mono {T:TypeId} {B B':Nat} {w:World} {g cap:Nat} {xs:List Value} (h:Kd T B w g cap xs) (hB:B'<=B):Kd T B' w g cap xs:=by
 obtain ⟨cur,h1,h2,h3,h4,h5,h6⟩:=h.parts;exact .of (by omega) h2 h3 h4 h5 h6
theorem KG.v {B:Nat} {w:World} {g cap:Nat} {p:List Nat} (h:KG B w g cap p):Kd 191 B w g cap (us p):=by
 unfold KG at h;unfold Kd;simpa [us] using h
theorem Kd.u {B:Nat} {w:World} {g cap:Nat} {p:List Nat} (h:Kd 191 B w g cap (us p)):KG B w g cap p:=by
 unfold Kd at h;unfold KG;simpa [us] using h
theorem Kg {a b c:World} {r:Option Nat} (h:a.grownBy b r) (k:b.grownBy c r):a.grownBy c r :=
 ⟨k.os.trans h.os,k.tape.trans h.tape,k.output.trans h.output,Nat.le_trans h.size k.size,λi hi hr=>(k.block i (Nat.lt_of_lt_of_le hi h.size) hr).trans (h.block i hi hr)⟩
theorem Kb {a b c:World} {r:Nat} (h:Ext a b) (k:b.grownBy c (some r)) (hr:a.heap.size<=r):Ext a c :=
 Ext.mk' (Below.grown h k h.size (λq hq=>by injection hq with hq;omega))
def bs (l:List UInt8):List Value:=l.map λc=>Value.int .u8 (c.toNat:Nat)
@[simp] theorem Kkx (l:List UInt8):(bs l).length=l.length:=by simp [bs]
def ss (l:List Int):List Value:=l.map λz=>I z
@[simp] theorem Kx (l:List Int):(ss l).length=l.length:=by simp [ss]
theorem Kl6 (l:List UInt8) (j:Nat) (c:UInt8):bs (l.set j c)=(bs l).set j (.int .u8 (c.toNat:Nat)):=by simp [bs,List.map_set]
theorem Xr (l:List Int) (j:Nat) (z:Int):ss (l.set j z)=(ss l).set j (I z):=by simp [ss,List.map_set]
theorem YO (l:List Int) (j:Nat) (z:Int):is (l.set j z)=(is l).set j (.int .i64 z):=by simp [is,List.map_set]
def Kno (l m:List UInt8) (i:Nat):Prop:=m.length=l.length /\ ∀t,t<l.length->m[t]? = if t<i\/l.length-i<=t then l[l.length-1-t]? else l[t]?
theorem Ki2 (l:List UInt8):Kno l l 0:=⟨rfl,λt ht=>by rw [if_neg (by omega)]⟩
theorem Knp {l m:List UInt8} {i:Nat} (h:Kno l m i) (hi:l.length<=2*i+1):m=l.reverse:=by
 refine List.ext_getElem? λt => ?_
 rcases Nat.lt_or_ge t l.length with ht | ht
 ·rw [h.2 t ht,List.getElem?_reverse ht]
  by_cases hc:t<i\/l.length-i<=t
  ·rw [if_pos hc]
  ·rw [if_neg hc];congr 1;omega
 ·rw [List.getElem?_eq_none (by rw [h.1];exact ht),List.getElem?_eq_none (by simpa using ht)]
theorem Klk {l m:List UInt8} {i:Nat} (h:Kno l m i) (hi:2*i+1<l.length) (h1:i<m.length) (h2:l.length-1-i<m.length) :
  Kno l ((m.set i m[l.length-1-i]).set (l.length-1-i) m[i]) (i+1):=by
 refine ⟨by simpa using h.1,λt ht => ?_⟩;have e1:m[i]? = l[i]? := by rw [h.2 i (by omega),if_neg (by omega)]
 have e2:m[l.length-1-i]? = l[l.length-1-i]? := by rw [h.2 _ (by omega),if_neg (by omega)]
 rw [List.getElem?_eq_getElem h1] at e1;rw [List.getElem?_eq_getElem h2] at e2;rw [List.getElem?_set,List.getElem?_set]
 by_cases ha:l.length-1-i=t
 ·subst ha;rw [if_pos rfl,if_pos (by simpa using h2),e1,if_pos (by omega)]
  congr 1;omega
 ·rw [if_neg ha]
  by_cases hb:i=t
  ·subst hb;rw [if_pos rfl,if_pos h1,e2,if_pos (by omega)]
  ·rw [if_neg hb,h.2 t ht]
   by_cases hc:t<i\/l.length-i<=t
   ·rw [if_pos hc,if_pos (by omega)]
   ·rw [if_neg hc,if_neg (by omega)]
theorem KeR {B:Nat} {w:World} {g cap:Nat} {l:List UInt8} (h:Kd 5 B w g cap (bs l)) (hl:l.length<=10000000000000) :
  Calls Tryz.prog 166 #[slv g l.length cap] w λe w'=>e = .returned (.tuple #[])/\Kd 5 B w' g cap (bs l.reverse)/\w.grownBy w' (some g):=by
 go_enter Tryz.func166,Tryz.ntmps166
 go_wp2
 go_loopw [2,3] (λa b wr => ∃(i:Nat) (m:List UInt8),2*i<=l.length+1/\a = .int .i64 i/\b = .int .i64 ((l.length:Int)-1-i)/\Kno l m i/\Kd 5 B wr g cap (bs m)/\w.grownBy wr (some g)) (λa b _=>(intOf b-intOf a+1).toNat)
 case atStart=>exact ⟨0,l,by omega,rfl,by go_num,Ki2 l,h,World.grownBy.refl _ _⟩
 case round =>
  obtain ⟨i,m,hi,rfl,rfl,hm,hO,hG⟩:=hrel;have Hm:=hid hm;clear hm h
  by_cases hlt:(i:Int)<(l.length:Int)-1-i
  ·have h1:i<m.length:=by rw [Hm.out.1];omega
   have h2:l.length-1-i<m.length:=by rw [Hm.out.1];omega
   obtain ⟨j,hj⟩ : ∃j,j=l.length-1-i:=⟨_,rfl⟩
   have hji:((l.length:Int)-1-i)=(j:Int):=by omega
   have Hst:=hid (Klk Hm.out (by omega) h1 h2);have Hj:=hid hj;rw [<-hj] at h2;rw [hji] at hlt ⊢;clear hji
   have c1:wr.cell? ⟨g,i,none⟩=some (.int .u8 (m[i].toNat:Nat)):=by
    rw [hO.cell (by simpa using h1)];simp [bs]
   have c2:wr.cell? ⟨g,j,none⟩=some (.int .u8 (m[j].toNat:Nat)):=by
    rw [hO.cell (by simpa using h2)];simp [bs]
   have f1:=hO.frozen i;have f2:=hO.frozen j;have hll:j<l.length:=by omega
   have hil:i<l.length:=by omega
   clear hj
   go_wp2
   go_region
   go_wp2
   obtain ⟨hO1,hG1⟩:=hO.set i (.int .u8 (m[j].toNat:Nat));rw [<-Kl6] at hO1;obtain ⟨hO2,hG2⟩:=hO1.set j (.int .u8 (m[i].toNat:Nat));rw [<-Kl6] at hO2;have hb:=Hj.out;go_roundw
   case rel =>
    refine ⟨i+1,(m.set i m[j]).set j m[i],by omega,by go_num,by go_num,?_,World.ownsRow.drew hO2,Kg hG (Kg hG1 ⟨hG2.os,hG2.tape,hG2.output,hG2.size,hG2.block⟩)⟩;have:=Hst.out;subst hb;exact this
   case measure=>simp [intOf];omega
  ·go_wp2
   go_end0
   refine ⟨rfl,?_,hG⟩;rw [<-Knp Hm.out (by omega)];exact hO
theorem Xg {w:World} {ga:Option Addr} {gb go gc:Nat} {p:List Nat} (h:Sl w ga gb go (us p)) (hl:p.length<=10000000000000) (hc:p.length<=gc) :
  Calls Tryz.prog 150 #[.slice ga p.length gc] w λe w'=>e = .returned (.slice ga (tl p).length gc)/\Ext w w':=by
 have H:=hid h;have htl:=Kcn p;clear h
 go_enter Tryz.func150,Tryz.ntmps150
 go_wp2
 go_loop [0] (λv => ∃k:Nat,k<=p.length/\v = .slice ga k gc/\Hid (tl p=tl (p.take k))) (λv=>match v with | .slice _ n _=>n | _=>0)
 case atStart=>exact ⟨p.length,Nat.le_refl _,rfl,by unfold Hid;rw [List.take_length]⟩
 case round =>
  obtain ⟨k,hk,rfl,ht⟩:=hrel
  rcases Nat.eq_zero_or_pos k with rfl | hk0
  ·go_wp2
   go_ret;exact ⟨KN (by rw [ht.out];rfl),Ext.refl _⟩
  ·obtain ⟨m,rfl⟩ : ∃m,k=m+1:=⟨k-1,by omega⟩
   obtain rfl:=H.out.addr (by rw [Qa];omega);have hm:m<p.length:=by omega
   have hcell:w.cell? ⟨gb,go+m,none⟩=some (.int .u64 (p[m]:Nat)):=H.out.cell m _ (ZY hm)
   by_cases hz:p[m]=0
   ·have ht':=hid (Kgr hm hz ht.out);rw [hz] at hcell;clear hz ht hk0
    go_wp2
    all_goals go_round
    case rel=>exact ⟨m,by omega,rfl,ht'⟩
    case measure=>simp
   ·have ht':=hid (Kh7 hm hz ht.out);have hz':(((p[m]:Nat):Int)==0)=false:=beq_eq_false_iff_ne.2 (by omega);clear hz ht hk0
    go_wp2
    go_ret;exact ⟨KN (by rw [ht'.out];rfl),Ext.refl _⟩
theorem Yt {u:Nat} (hu:Lib.nDigits u<=LIM) (w:World) :
  Calls Tryz.prog 141 #[D u] w λe w' => ∃v,e = .returned v/\Kkq w.heap.size w' v u/\Ext w w':=by
 have hcv:=λ(w:World) (s:ByteArray)=>Lib.run_convert_string_bytes (P:=Tryz.prog) w 45 216 5 s Tryz.underlying45 Tryz.underlying216 Tryz.underlying5
 obtain ⟨i0,hi,hz0,hz1,hz2⟩:=info_parts Tryz.infoU64;have hn:(Lib.decDigits u).length<=1000000000000:=by rw [Lib.decDigits_length];exact hu
 clear hu
 go_enter Tryz.func141,Tryz.ntmps141
 go_wp2_with (at_make;refine wpList_make_own _ rfl _ _ 200 rfl w.heap.size 191 i0 (.int .u64 0) 1 Tryz.underlying200 hi hz0 hz1 .i64 .i64 _ ((Lib.decDigits u).length/9+1) rfl rfl ?hC ?b2 ?b3 ?b4 ?_)
 case hC=>omega
 case b2=>rw [hz2];omega
 case b3=>unfold maxLen;omega
 case b4=>exact Nat.le_refl _
 intro w1 hown1 hgrow1;have he1:=KR hgrow1;clear hgrow1;generalize hcap:(Lib.decDigits u).length/9+1=cap at *;have Hcap:=hid hcap;clear hcap;generalize hg:w.heap.size=g at *;have Hg:=hid hg;clear hg
 go_wp2
 go_loopw [3,4] (λout en wr => ∃(k:Nat),9*k<(Lib.decDigits u).length+9/\out=slv g k cap/\en = .int .i64 ((Lib.decDigits u).length-9*k)/\KG g wr g cap (pcl u k)/\Ext w wr) (λ_ en _=>(intOf en).toNat)
 case atStart=>exact ⟨0,by omega,rfl,by simp,hown1,he1⟩
 case round =>
  obtain ⟨k,hk,rfl,rfl,hO,hE⟩:=hrel;clear hown1 he1
  by_cases hpos:(0:Int)<(Lib.decDigits u).length-9*k
  ·obtain ⟨e,he⟩ : ∃e,e+9*k=(Lib.decDigits u).length:=⟨(Lib.decDigits u).length-9*k,by omega⟩
   have hee:((Lib.decDigits u).length:Int)-9*k=(e:Int):=by omega
   rw [hee] at hpos ⊢;have Hee:=hid hee;have He:=hid he;have hel:e<=(Lib.decDigits u).length:=by omega
   clear hee he;have hmx:(max 0 ((e:Int)-9)).toNat=e-9:=by omega
   obtain ⟨M,hM⟩ : ∃M,M=((Lib.decDigits u).drop (e-9)).take (e-(e-9)):=⟨_,rfl⟩
   have hMl:M.length=e-(e-9):=by rw [hM,List.length_take,List.length_drop];omega
   have hMd : ∀c∈M,Z5 c:=λc hc=>by rw [hM] at hc;exact XQ u c (List.mem_of_mem_drop (List.mem_of_mem_take hc))
   have hMv:=KkE u k e He.out;rw [<-hM] at hMv
   have hMs:((⟨(Lib.decDigits u).toArray⟩:ByteArray).extract (e-9) e).data.toList=M:=by
    rw [Lib.extract_data,hM]
   have HMs:=hid hMs;have HM:=hid hM;have HMl:=hid hMl;have HMd:=hid hMd;have HMv:=hid hMv;have Hmx:=hid hmx;clear hMs hM hMl hMd hMv hmx
   go_wp2
   rw [Hmx.out,<-HMl.out]
   have hsz:((⟨(Lib.decDigits u).toArray⟩:ByteArray).extract (e-9) e).size=M.length:=by
    rw [<-HMs.out];simp [ByteArray.size]
   have hcl:=λj (hj:j<M.length)=>Lib.bytesWorld_cell wr 5 ((⟨(Lib.decDigits u).toArray⟩:ByteArray).extract (e-9) e) j (by rw [hsz];exact hj)
   rw [HMs.out] at hcl;have hEW:=Q3 wr 5 ((⟨(Lib.decDigits u).toArray⟩:ByteArray).extract (e-9) e);generalize Lib.bytesWorld wr 5 ((⟨(Lib.decDigits u).toArray⟩:ByteArray).extract (e-9) e)=W at *;generalize grownCap wr M.length 0 5=gc at *;have hO':=hO.ext hEW;have hE':=hE.trans hEW;have Hcl:=hid hcl;have Hsz:=hid hsz;clear hcl hsz hO hE;have hMl9:M.length<=9:=by rw [HMl.out];omega
   go_loop [5,27] (λn i => ∃j:Nat,j<=M.length/\i = .int .i64 j/\n = .int .u64 (Zp 0 (M.take j):Nat)) (λ_ i=>M.length-(intOf i).toNat)
   case atStart=>exact ⟨0,Nat.zero_le _,rfl,rfl⟩
   case round =>
    obtain ⟨j,hj,rfl,rfl⟩:=hrel
    by_cases hlt:j<M.length
    ·have hcell:W.cell? ⟨wr.heap.size,j,none⟩=some (.int .u8 (M[j].toNat:Nat)):=by
      rw [Hcl.out j hlt,List.getD_eq_getElem?_getD,List.getElem?_eq_getElem hlt];rfl
     have hdj:=HMd.out M[j] (List.getElem_mem hlt);have hvl:=KbJ (M.take j) (λc hc=>HMd.out c (List.mem_of_mem_take hc));have hlen:(M.take j).length<=8:=by rw [List.length_take];omega
     have hpow:10^(M.take j).length<=10^8:=Nat.pow_le_pow_right (by omega) hlen
     have hstep:Zp 0 (M.take (j+1))=10*Zp 0 (M.take j)+dv M[j]:=by
      rw [List.take_succ_eq_append_getElem hlt,YI,QE,XI]
     obtain ⟨e1,e2,e3⟩:=KdG hdj;have hb1:(48:Int)<=(M[j].toNat:Nat):=by have:=hdj.1;omega
     have hb2:((M[j].toNat:Nat):Int)<=57:=by have:=hdj.2;omega
     have hb3:((Zp 0 (M.take j):Nat):Int)<100000000:=by omega
     have Hstep:=hid hstep;have He2:=hid e2;clear hstep e1 e2 e3 hpow hlen hvl hdj
     go_wp2
     go_round
     case rel=>exact ⟨j+1,by omega,by go_num,by rw [Hstep.out];have:=He2.out;go_num⟩
     case measure=>simp [intOf];omega
    ·have hjM:j=M.length:=by omega
     subst hjM;rw [List.take_length] at *
     have hOw:W.ownsRow g 191 1 (slv g k cap) k (us (pcl u k)):=by
      have:=hO';unfold KG at this;rw [Jp] at this;exact this
     have hWs:=hO'.lt;have hcap1:k+1<=cap:=by have:=He.out;have:=Hcap.out;omega
     clear hO';go_wp2_with (at_builtin;refine wpList_append_fits _ rfl _ _ 200 rfl g 191 i0 1 Tryz.underlying200 hi hz1 g k cap _ rfl (World.ownsRow.alloc hOw _) ⟨W.heap.size,0,none⟩ 1 1 [.int .u64 (Zp 0 M:Nat)] rfl rfl (cell_one_new _ _ _) (YC _ _) hcap1 ?_;intro w2 hown2 hgrow2)
     have hE2:Ext w w2:=by
      refine Ext.mk' (Below.grown (Below.alloc hE' hE'.size _) hgrow2 (by simp;have:=hE'.size;omega) ?_);intro q hq;injection hq with hq
      have:=Hg.out;omega
     have hO2:KG g w2 g cap (pcl u (k+1)):=by
      unfold KG;rw [Jp,KhE,<-HMv.out];simpa [us] using hown2
     go_roundw
     case rel=>exact ⟨k+1,by have:=He.out;omega,rfl,by have:=He.out;go_num,hO2,hE2⟩
     case measure=>simp [intOf];omega
  ·have hO1:=hO.sl;have hlen:=Jp u k;have hcapk:=hO.cap;rw [hlen] at hcapk;have Hlen:=hid hlen;have htr:=Xg (gc:=cap) hO1 (by rw [hlen];omega) (by rw [hlen];exact hcapk);rw [hlen] at htr;have Htr:=hid htr;have htl:tl (pcl u k)=pc u:=Kqx (by rw [<-Lib.decDigits_length];omega);have Htl:=hid htl;clear htr hO1 hlen htl;go_wp2_with fail;refine Htr.out.mono ?_;rintro e w2 ⟨rfl,hb2⟩;go_wp2_with fail;go_ret;refine ⟨_,rfl,?_,hE.trans hb2⟩;have:=(hO.tl).ext hb2;rw [Htl.out] at this ⊢;exact ⟨g,cap,rfl,by rw [Hg.out];exact this⟩
end
end Go.Proofs.YtdmaofimeknkbaaGreatDoor
