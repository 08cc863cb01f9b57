/- Part 13 of the proof of the claim: contracts of the functions that it reaches, and plain laws; no condition. -/
import Derived.Test.YtdmaofimeknkbaaGreatDoorQ12
import Derived.Test.YtdmaofimeknkbaaGreatDoorQ11
import Derived.Test.YtdmaofimeknkbaaGreatDoorQ08
set_option maxRecDepth 100000
set_option maxHeartbeats 20000000
namespace Go.Proofs.YtdmaofimeknkbaaGreatDoor
section
open Go.RowKit Go.Sort
theorem Tryz.infoInt:(Tryz.prog.info? 3).map (λi=>(i.zero,i.size,i.bytes))=some (some (.int .i64 0),1,8):=by kernel_rfl
def QK (l:List Int):Bool:=l.all λz => !grt z
theorem Ka1 {l:List Int}:QK l=true ↔ ∀z∈l,-1000000000<=z/\z<=1000000000:=by
 unfold QK;rw [List.all_eq_true];constructor
 ·intro h z hz;have:=h z hz;unfold grt at this;simp only [Bool.not_eq_true',decide_eq_false_iff_not] at this;omega
 ·intro h z hz;have:=h z hz;unfold grt;simp only [Bool.not_eq_true',decide_eq_false_iff_not];omega
def KpE (B:Nat) (w:World) (v:Value) (r:List Int):Prop := ∃g cap,v=slv g r.length cap/\Kd 3 B w g cap (is r)
def Kc2 (w:World) (l:List Int) (e:Ending) (w':World):Prop :=
 (if QK l then ∃v,e = .returned (.tuple #[v,.int .i64 0])/\KpE w.heap.size w' v l else e = .returned (.tuple #[.slice none 0 0,.int .i64 4]))/\Ext w w'
theorem KfG {l:List Int} {i:Nat} (h:i<l.length) (hg:grt l[i]=true):QK l=false:=by
 cases hs:QK l
 ·rfl
 ·have:=Ka1.1 hs _ (List.getElem_mem h);unfold grt at hg;have:=of_decide_eq_true hg;omega
theorem Kce {l:List Int} (h : ∀j (hj:j<l.length),grt l[j]=false):QK l=true:=by
 refine Ka1.2 λz hz => ?_
 obtain ⟨j,hj,rfl⟩:=List.getElem_of_mem hz;have:=h j hj;unfold grt at this;have:=of_decide_eq_false this;omega
theorem Kgd {l:List Int} {i:Nat} (h:i<l.length):is (l.take (i+1))=is (l.take i)++[.int .i64 l[i]]:=by
 rw [List.take_succ_eq_append_getElem h];simp only [is,List.map_append,List.map_cons,List.map_nil]
theorem Tryz.infoRow:(Tryz.prog.info? 38).map (λi=>(i.zero,i.size,i.bytes))=some (some (.slice none 0 0),1,24):=by kernel_rfl
def KH (B:Nat) (w:World) (v:Value) (r:List Int):Prop:=w.ownsRow B 3 1 v r.length (is r)
theorem KH.nil (B:Nat) (w:World):KH B w (.slice none 0 0) []:=⟨rfl,.inl ⟨rfl,rfl⟩⟩
theorem KH.ext {B:Nat} {w w':World} {v:Value} {r:List Int} (h:KH B w v r) (he:Ext w w'):KH B w' v r:=KU h he
theorem QV {w:World} {B B':Nat} {e:TypeId} {size n:Nat} {v:Value} {xs:List Value} (h:w.ownsRow B e size v n xs) (hB:B'<=B):w.ownsRow B' e size v n xs:=by
 refine ⟨h.1,?_⟩
 rcases h.2 with h' | ⟨g',cap',cur,h',hB',r⟩
 ·exact .inl h'
 ·exact .inr ⟨g',cap',cur,h',by omega,r⟩
theorem KH.mono {B B':Nat} {w:World} {v:Value} {r:List Int} (h:KH B w v r) (hB:B'<=B):KH B' w v r:=QV h hB
theorem KH.row {B:Nat} {w:World} {v:Value} {r:List Int} (h:KH B w v r):KT w v r:=by
 rcases h.2 with ⟨rfl,h0⟩ | ⟨g,cap,cur,rfl,hb,hg,hn,hm,hs,ht⟩
 ·have:r=[]:=by cases r with
   | nil=>rfl
   | cons=>simp at h0
  subst this;exact ⟨none,0,0,0,rfl,Nat.le_refl _,Sl.nil _ _ _ _⟩
 ·have ho:Kd 3 B w g cap (is r):=by unfold Kd;rw [Kq];exact h
  exact ⟨_,g,0,cap,rfl,hn,ho.sl⟩
theorem Kd2 {B B':Nat} {w:World} {T T':TypeId} {size size' n n':Nat} {u v:Value} {xs ys:List Value} (h:w.ownsRow B T size u n xs) (h':w.ownsRow B' T' size' v n' ys) (hT:T≠T') {g:Nat} (hg:u.ownBlock=some g):v.ownBlock≠some g:=by
 intro e
 rcases h.2 with ⟨rfl,_⟩ | ⟨g1,cap,cur,rfl,_,hg1,_⟩
 ·cases hg
 ·rcases h'.2 with ⟨rfl,_⟩ | ⟨g2,cap2,cur2,rfl,_,hg2,_⟩
  ·cases e
  ·injection hg with hg;injection e with e
   subst hg;subst e
   rw [hg1] at hg2;injection hg2 with hg2
   injection hg2 with _ h3
   exact hT h3
theorem Ks {B B':Nat} {w w':World} {T T':TypeId} {size size' n n':Nat} {u v:Value} {xs ys:List Value} (h:w.ownsRow B T size u n xs) (h':w.ownsRow B' T' size' v n' ys) (hT:T≠T') (hg:w.grownBy w' v.ownBlock):w'.ownsRow B T size u n xs:=by
 refine World.ownsRow.kept h hg ?_
 cases hu:u.ownBlock with
 | none=>exact .inl rfl
 | some g=>exact .inr (λe=>Kd2 h h' hT hu e.symm)
theorem Kou (r:List Int) (z:Int):is (r++[z])=is r++[.int .i64 z]:=by simp only [is,List.map_append,List.map_cons,List.map_nil]
section
variable {w:World} {ops:Array Oper} {rest:List Oper} {o:Oper} {a:Act} {Q:Exit->Act->World->Prop}
theorem Y9 (hgd:o.guard=none) (s x:Operand) (t:TypeId) (ht:Tryz.prog.underlying t=some (.slice 3)) (ho:o.op = .call { callee := .builtin .append,args := #[s,x],argTypes := #[t,t] })
  {B:Nat} {v:Value} {r:List Int} (hs:a.eval s=v) (hown:KH B w v r) {b:Nat} {z:Int} (hx:a.eval x = .slice (some ⟨b,0,none⟩) 1 1) (hc:w.cell? ⟨b,0,none⟩=some (.int .i64 z)) (hl:r.length<=1000000000) (hB:B<=w.heap.size)
  (h : ∀g cap w',KH B w' (slv g (r.length+1) cap) (r++[z])->Below B w w'->w.grownBy w' v.ownBlock->wpList Tryz.prog ops Q rest (a.put o.dst (slv g (r.length+1) cap)) w'):wpList Tryz.prog ops Q (o::rest) a w:=by
 obtain ⟨i0,hi,hz0,hz1,hz2⟩:=info_parts Tryz.infoInt;refine wpList_append_lies w hgd s x t ho B 3 i0 _ 1 8 ht hi hz0 hz1 hz2 rfl (by omega) v r.length (is r) hs hown ⟨b,0,none⟩ 1 1 [.int .i64 z] hx rfl ?_ (YC _ _) (by omega) (by unfold maxLen;omega) (by omega) hB w.heap.size rfl ?_
 ·intro j u hj;have:j=0:=by have:=(List.getElem?_eq_some_iff.1 hj).1;simp at this;omega
  subst this;simp only [List.getElem?_cons_zero,Option.some.injEq] at hj;subst hj;simpa [Addr.add_lit] using hc
 ·intro g cap w' h1 h2 h3 h4;refine h g cap w' ?_ (Below.grown (Below.refl _ _) h2 hB (λq hq=>(World.ownsRow.lt hown q hq).1)) h2;unfold KH;rw [Kou,List.length_append];exact h1
def Qk (B:Nat) (w:World) (v:Value) (F:Mx):Prop := ∃vs,vs.length=F.length/\w.ownsRow B 38 1 v F.length vs /\ ∀t (_:t<F.length) (h':t<vs.length),KH B w vs[t] F[t]
theorem Qk.nil (B:Nat) (w:World):Qk B w (.slice none 0 0) []:=⟨[],rfl,⟨rfl,.inl ⟨rfl,rfl⟩⟩,λt h=>by simp at h⟩
theorem Qk.ext {B:Nat} {w w':World} {v:Value} {F:Mx} (h:Qk B w v F) (he:Ext w w'):Qk B w' v F:=by
 obtain ⟨vs,h1,h2,h3⟩:=h;exact ⟨vs,h1,KU h2 he,λt a b=>(h3 t a b).ext he⟩
theorem Qk.mono {B B':Nat} {w:World} {v:Value} {F:Mx} (h:Qk B w v F) (hB:B'<=B):Qk B' w v F:=by
 obtain ⟨vs,h1,h2,h3⟩:=h;exact ⟨vs,h1,QV h2 hB,λt a b=>(h3 t a b).mono hB⟩
theorem Qk.mat {B:Nat} {w:World} {v:Value} {F:Mx} (h:Qk B w v F):KJ w v F:=by
 obtain ⟨vs,h1,h2,h3⟩:=h;have hr : ∀i (h:i<F.length) (h':i<vs.length),KT w vs[i] F[i]:=λi a b=>(h3 i a b).row
 rcases h2.2 with ⟨rfl,h0⟩ | ⟨g,cap,cur,rfl,hb,hg,hn,hm,hs,ht⟩
 ·have:F=[]:=List.eq_nil_of_length_eq_zero h0;subst this;have hv:vs=[]:=List.eq_nil_of_length_eq_zero h1;subst hv;exact ⟨none,0,0,0,[],rfl,Nat.le_refl _,rfl,Sl.nil _ _ _ _,hr⟩
 ·have ho:Kd 38 B w g cap vs:=by unfold Kd;rw [h1];exact h2
  exact ⟨_,g,0,cap,vs,rfl,hn,h1,ho.sl,hr⟩
theorem KH.one {B:Nat} {w:World} {v:Value} {r:List Int} (h:KH B w v r):v.oneCell'=true:=by
 rcases h.2 with ⟨rfl,_⟩ | ⟨g,cap,cur,rfl,_⟩<;>rfl
theorem KfX (hgd:o.guard=none) (s x:Operand) (ho:o.op = .call { callee := .builtin .append,args := #[s,x],argTypes := #[31,31] })
  {B:Nat} {v rv:Value} {F:Mx} {r:List Int} (hs:a.eval s=v) (hown:Qk B w v F) {b:Nat} (hx:a.eval x = .slice (some ⟨b,0,none⟩) 1 1) (hc:w.cell? ⟨b,0,none⟩=some rv) (hr:KH B w rv r) (hl:F.length<=1000000000) (hB:B<=w.heap.size)
  (h : ∀g cap w',Qk B w' (slv g (F.length+1) cap) (F++[r])->Below B w w'->w.grownBy w' v.ownBlock->wpList Tryz.prog ops Q rest (a.put o.dst (slv g (F.length+1) cap)) w'):wpList Tryz.prog ops Q (o::rest) a w:=by
 obtain ⟨i0,hi,hz0,hz1,hz2⟩:=info_parts Tryz.infoRow;obtain ⟨vs,h1,h2,h3⟩:=hown;refine wpList_append_lies w hgd s x 31 ho B 38 i0 _ 1 24 Tryz.underlying31 hi hz0 hz1 hz2 rfl (by omega) v F.length vs hs h2 ⟨b,0,none⟩ 1 1 [rv] hx rfl ?_ ?_ (by omega) (by unfold maxLen;omega) (by omega) hB w.heap.size rfl ?_
 ·intro j u hj;have:j=0:=by have:=(List.getElem?_eq_some_iff.1 hj).1;simp at this;omega
  subst this;simp only [List.getElem?_cons_zero,Option.some.injEq] at hj;subst hj;simpa [Addr.add_lit] using hc
 ·intro u hu;simp only [List.mem_cons,List.not_mem_nil,or_false] at hu;subst hu;exact hr.one
 ·intro g cap w' k1 k2 k3 k4;have hkeep : ∀{u:Value} {l:List Int},KH B w u l->KH B w' u l:=λhu=>Ks hu h2 (by decide) k2
  refine h g cap w' ⟨vs++[rv],by simp [h1],?_,λt ht ht' => ?_⟩ (Below.grown (Below.refl _ _) k2 hB (λq hq=>(World.ownsRow.lt h2 q hq).1)) k2
  ·rw [List.length_append];exact k1
  ·rcases Nat.lt_or_ge t F.length with hlt | hge
   ·rw [List.getElem_append_left (by omega),List.getElem_append_left hlt];exact hkeep (h3 t hlt (by omega))
   ·have hte:t=F.length:=by simp at ht;omega
    subst hte;rw [List.getElem_append_right (by omega),List.getElem_append_right (by omega)];simp only [h1,Nat.sub_self,List.getElem_cons_zero];exact hkeep hr
end
def KW (B:Nat) (w:World) (v:Value) (l:List Int):Prop:=w.ownsRow B 45 1 v l.length (ss l)
theorem KW.nil (B:Nat) (w:World):KW B w (.slice none 0 0) []:=⟨rfl,.inl ⟨rfl,rfl⟩⟩
theorem KW.ext {B:Nat} {w w':World} {v:Value} {l:List Int} (h:KW B w v l) (he:Ext w w'):KW B w' v l:=KU h he
theorem KW.mono {B B':Nat} {w:World} {v:Value} {l:List Int} (h:KW B w v l) (hB:B'<=B):KW B' w v l:=QV h hB
theorem KW.sl {B:Nat} {w:World} {v:Value} {l:List Int} (h:KW B w v l) : ∃ga gb cap,v = .slice ga l.length cap/\l.length<=cap/\Sl w ga gb 0 (ss l):=by
 rcases h.2 with ⟨rfl,h0⟩ | ⟨g,cap,cur,rfl,hb,hg,hn,hm,hs,ht⟩
 ·have:l=[]:=List.eq_nil_of_length_eq_zero h0;subst this;exact ⟨none,0,0,rfl,Nat.le_refl _,Sl.nil _ _ _ _⟩
 ·have ho:Kd 45 B w g cap (ss l):=by unfold Kd;rw [Kx];exact h
  exact ⟨_,g,cap,rfl,hn,ho.sl⟩
theorem KoZ (l:List Int) (z:Int):ss (l++[z])=ss l++[I z]:=by simp only [ss,List.map_append,List.map_cons,List.map_nil]
theorem Kd.ints {B:Nat} {w:World} {g cap:Nat} {l:List Int} (h:Kd 45 B w g cap (ss l)):KW B w (slv g l.length cap) l:=by
 unfold KW;unfold Kd at h;rw [Kx] at h;exact h
section
variable {w:World} {ops:Array Oper} {rest:List Oper} {o:Oper} {a:Act} {Q:Exit->Act->World->Prop}
theorem KgI (hgd:o.guard=none) (s x:Operand) (ho:o.op = .call { callee := .builtin .append,args := #[s,x],argTypes := #[108,108] })
  {B:Nat} {v:Value} {r:List Int} (hs:a.eval s=v) (hown:KW B w v r) {b:Nat} {z:Int} (hx:a.eval x = .slice (some ⟨b,0,none⟩) 1 1) (hc:w.cell? ⟨b,0,none⟩=some (I z)) (hl:r.length<=1000000000) (hB:B<=w.heap.size)
  (h : ∀g cap w',KW B w' (slv g (r.length+1) cap) (r++[z])->Below B w w'->w.grownBy w' v.ownBlock->wpList Tryz.prog ops Q rest (a.put o.dst (slv g (r.length+1) cap)) w'):wpList Tryz.prog ops Q (o::rest) a w:=by
 obtain ⟨i0,hi,hz0,hz1,hz2⟩:=info_parts Tryz.infoStr;refine wpList_append_lies w hgd s x 108 ho B 45 i0 _ 1 16 Tryz.underlying108 hi hz0 hz1 hz2 rfl (by omega) v r.length (ss r) hs hown ⟨b,0,none⟩ 1 1 [I z] hx rfl ?_ (KoM _) (by omega) (by unfold maxLen;omega) (by omega) hB w.heap.size rfl ?_
 ·intro j u hj;have:j=0:=by have:=(List.getElem?_eq_some_iff.1 hj).1;simp at this;omega
  subst this;simp only [List.getElem?_cons_zero,Option.some.injEq] at hj;subst hj;simpa [Addr.add_lit] using hc
 ·intro g cap w' h1 h2 h3 h4;refine h g cap w' ?_ (Below.grown (Below.refl _ _) h2 hB (λq hq=>(World.ownsRow.lt hown q hq).1)) h2;unfold KW;rw [KoZ,List.length_append];exact h1
end
theorem KeO (n g c:Nat) : ∃a l k,xv n g c = .slice a l k:=by
 unfold xv;split<;>exact ⟨_,_,_,rfl⟩
end
section
open Go.RowKit Go.Sort
open Hnf (V Ko Ech Red)
def Xq (F:Mx):Bool:=F.all QK
theorem KbX {d:Nat} {ls:List Ln} {i:Nat} (hi:i<d) (hd:d<=ls.length) (h:i<(Za d ls).length):(Za d ls)[i]=(ls.getD i default).1:=by
 simp only [Za,List.getElem_map,List.getElem_take,Ka (show i<ls.length by omega)]
theorem XS {d:Nat} {ls:List Ln} (hd:d<=ls.length):(Za d ls).length=d:=by unfold Za;simp;omega
theorem Ki9 {F:Mx} {i:Nat} (h:i<F.length) (hs:QK F[i]=false):Xq F=false:=by
 cases hm:Xq F
 ·rfl
 ·have:=List.all_eq_true.1 hm _ (List.getElem_mem h);rw [this] at hs;cases hs
theorem Kja {F:Mx} (h : ∀j (hj:j<F.length),QK F[j]=true):Xq F=true:=by
 refine List.all_eq_true.2 λr hr => ?_
 obtain ⟨j,hj,rfl⟩:=List.getElem_of_mem hr;exact h j hj
end
section
open Go.RowKit Go.Sort
open Lib (hid)
def hdX (n:Nat) (ad:List (Nat×Nat)):List Value:=ad.map λa=>slv a.1 n a.2
@[simp] theorem KpZ (n:Nat) (ad:List (Nat×Nat)):(hdX n ad).length=ad.length:=by simp [hdX]
theorem J7 {B:Nat} {w:World} {g cap n:Nat} {r:List Int} (h:KH B w (slv g n cap) r) (hn:r.length=n):Kd 3 B w g cap (is r):=by
 subst hn;unfold KH at h;unfold Kd;rw [Kq];exact h
theorem Kbj (w:World) (o:Obj):(w.alloc o).heap[w.heap.size]? = some o:=by
 show (w.heap.push o)[w.heap.size]? = some o;simp
theorem KfB {w:World} {g:Nat} (h:w.heap[g]? = some (.cells #[] 3 (0,0))) {B:Nat} (hB:B<=g):KH B w (.slice (some ⟨g,0,none⟩) 0 0) [] :=
 ⟨rfl,.inr ⟨g,0,#[],rfl,hB,h,Nat.le_refl _,Nat.zero_le _,rfl,rfl⟩⟩
theorem KbO {B n g:Nat} {w:World} (h:w.ownsRow B 3 1 (.slice (some ⟨g,0,none⟩) n n) n (madeCells (Value.int .i64 0).cells (n*1)).toList):KH B w (.slice (some ⟨g,0,none⟩) n n) (List.replicate n 0):=by
 unfold KH
 have e:(madeCells (Value.int .i64 0).cells (n*1)).toList=is (List.replicate n 0):=by
  rw [show (Value.int .i64 0).cells = #[.int .i64 0] from rfl,toList_madeCells_one,Nat.mul_one];simp [is]
 rw [List.length_replicate,<-e];exact h
section
variable {w:World} {ops:Array Oper} {rest:List Oper} {o:Oper} {a:Act} {Q:Exit->Act->World->Prop}
end
theorem Tryz.infoInts:(Tryz.prog.info? 108).map (λi=>(i.zero,i.size,i.bytes))=some (some (.slice none 0 0),1,24):=by kernel_rfl
def sw2 {α:Type} (l:List α) (d:α) (i j:Nat):List α:=(l.set i (l.getD j d)).set j (l.getD i d)
@[simp] theorem Qi {α:Type} (l:List α) (d:α) (i j:Nat):(sw2 l d i j).length=l.length:=by simp [sw2]
theorem Xe {α:Type} (l:List α) (d:α) {i j:Nat} (hi:i<l.length) (hj:j<l.length) (t:Nat) (e:α):(sw2 l d i j).getD t e=if t=j then l.getD i d else if t=i then l.getD j d else l.getD t e:=by
 unfold sw2;rw [Q4 _ _ _ _ _ (by simpa using hj),Q4 _ _ _ _ _ hi]
theorem KS {α:Type} (l:List α) (d:α) {i j:Nat} (hi:i<l.length) (hj:j<l.length) {t:Nat} (ht:t<(sw2 l d i j).length):(sw2 l d i j)[t]=l[sg i j t]'(Y5 hi hj (by simpa using ht)):=by
 have:=Xe l d hi hj t d;rw [Ka ht] at this;rw [this];unfold sg;split
 ·rw [Ka hi]
 ·split
  ·rw [Ka hj]
  ·rw [Ka (by simpa using ht)]
def hdV:List (Nat×Nat)->Mx->List Value
 | a::ad,r::F=>xv r.length a.1 a.2::hdV ad F
 | _,_=>[]
theorem K5 : ∀(ad:List (Nat×Nat)) (F:Mx),ad.length=F.length->(hdV ad F).length=F.length
 | [],[],_=>rfl
 | [],_::_,h=>by simp at h
 | _::_,[],h=>by simp at h
 | a::ad,r::F,h=>by simp [hdV,K5 ad F (by simpa using h)]
theorem XT : ∀(ad:List (Nat×Nat)) (F:Mx) (i:Nat) (h:i<ad.length) (h2:i<F.length),(hdV ad F)[i]? = some (xv F[i].length ad[i].1 ad[i].2)
 | a::ad,r::F,0,_,_=>rfl
 | a::ad,r::F,i+1,h,h2=>by simpa [hdV] using XT ad F i (by simpa using h) (by simpa using h2)
 | [],_,i,h,_=>by simp at h
 | _::_,[],i,_,h=>by simp at h
theorem YA : ∀(ad:List (Nat×Nat)) (F:Mx) (i:Nat) (a:Nat×Nat) (r:List Int),hdV (ad.set i a) (F.set i r)=(hdV ad F).set i (xv r.length a.1 a.2)
 | [],[],i,a,r=>by simp [hdV]
 | [],_::_,i,a,r=>by simp [hdV]
 | b::ad,[],i,a,r=>by cases i<;>simp [hdV]
 | b::ad,s::F,0,a,r=>by simp [hdV]
 | b::ad,s::F,i+1,a,r=>by simp [hdV,YA ad F i a r]
theorem KdM : ∀(ad:List (Nat×Nat)) (F:Mx) (a:Nat×Nat) (r:List Int),ad.length=F.length->hdV (ad++[a]) (F++[r])=hdV ad F++[xv r.length a.1 a.2]
 | [],[],a,r,_=>rfl
 | [],_::_,a,r,h=>by simp at h
 | _::_,[],a,r,h=>by simp at h
 | b::ad,s::F,a,r,h=>by simp [hdV,KdM ad F a r (by simpa using h)]
structure GrX (B:Nat) (w:World) (v:Value) (F:Mx) (ad:List (Nat×Nat)):Prop where
 len:ad.length=F.length
 own:w.ownsRow B 108 1 v F.length (hdV ad F)
 row : ∀i (h:i<F.length) (h':i<ad.length),0<F[i].length->Kd 45 B w ad[i].1 ad[i].2 (ss F[i])
 dis : ∀i j (hi:i<ad.length) (hj:j<ad.length) (h:i<F.length) (h':j<F.length),0<F[i].length->0<F[j].length->i≠j->ad[i].1≠ad[j].1
theorem GrX.nil (B:Nat) (w:World):GrX B w (.slice none 0 0) [] [] :=
 ⟨rfl,⟨rfl,.inl ⟨rfl,rfl⟩⟩,(λi h=>by simp at h),(λi j h=>by simp at h)⟩
theorem GrX.ext {B:Nat} {w w':World} {v:Value} {F:Mx} {ad:List (Nat×Nat)} (h:GrX B w v F ad) (he:Ext w w'):GrX B w' v F ad :=
 ⟨h.len,KU h.own he,λi a b c=>(h.row i a b c).ext he,h.dis⟩
theorem GrX.mono {B B':Nat} {w:World} {v:Value} {F:Mx} {ad:List (Nat×Nat)} (h:GrX B w v F ad) (hB:B'<=B):GrX B' w v F ad :=
 ⟨h.len,QV h.own hB,λi a b c=>(h.row i a b c).mono hB,h.dis⟩
theorem GrX.shape {B:Nat} {w:World} {v:Value} {F:Mx} {ad:List (Nat×Nat)} (h:GrX B w v F ad) : ∃ga cap,v = .slice ga F.length cap/\F.length<=cap/\(0<F.length -> ∃g,ga=some ⟨g,0,none⟩):=by
 rcases h.own.2 with ⟨rfl,h0⟩ | ⟨g,cap,cur,rfl,hb,hg,hn,hm,hs,ht⟩
 ·rw [h0];exact ⟨none,0,rfl,Nat.le_refl _,λh=>by omega⟩
 ·exact ⟨_,cap,rfl,hn,λ_=>⟨g,rfl⟩⟩
theorem GrX.outer {B:Nat} {w:World} {g cap:Nat} {F:Mx} {ad:List (Nat×Nat)} (h:GrX B w (slv g F.length cap) F ad):Kd 108 B w g cap (hdV ad F):=by
 unfold Kd;rw [K5 _ _ h.len];exact h.own
theorem K7 {B B':Nat} {w:World} {g cap gx cx:Nat} {xs ys:List Value} (h:Kd 108 B w g cap xs) (h':Kd 45 B' w gx cx ys):gx≠g:=by
 intro e;exact Kd2 (u:=slv gx ys.length cx) (v:=slv g xs.length cap) h' h (by decide) (g:=gx) rfl (by rw [e];rfl)
theorem GrX.at {B:Nat} {w:World} {g cap n i:Nat} {F:Mx} {ad:List (Nat×Nat)} (h:GrX B w (slv g F.length cap) F ad) (hR:Ku n F) (hn:0<n) (hi:i<F.length) :
  ∃gx cx,ad[i]? = some (gx,cx)/\w.cell? ⟨g,i,none⟩=some (slv gx n cx)/\Kd 45 B w gx cx (ss (F.getD i []))/\gx≠g/\(F.getD i []).length=n:=by
 have hi':i<ad.length:=by rw [h.len];exact hi
 have hl:F[i].length=n:=hR _ (List.getElem_mem hi);have hO:=h.row i hi hi' (by omega);refine ⟨ad[i].1,ad[i].2,by rw [List.getElem?_eq_getElem hi'],?_,?_,K7 h.outer hO,by rw [Ka hi];exact hl⟩
 ·have hg:=XT ad F i hi' hi;obtain ⟨hlt,he⟩:=List.getElem?_eq_some_iff.1 hg;rw [h.outer.cell (j:=i) hlt,he,hl,Qo hn]
 ·rw [Ka hi];exact hO
theorem GrX.wrote {B:Nat} {w w':World} {g cap i gx cx:Nat} {F:Mx} {ad:List (Nat×Nat)} {r:List Int} (h:GrX B w (slv g F.length cap) F ad) (hi:i<F.length) (ha:ad[i]? = some (gx,cx)) (hr:r.length=(F.getD i []).length) (hr0:0<r.length)
  (hO:Kd 45 B w' gx cx (ss r)) (hC:Chg (λk=>k=gx) w w'):GrX B w' (slv g F.length cap) (F.set i r) ad:=by
 have hi':i<ad.length:=by rw [h.len];exact hi
 rw [Ka hi] at hr;rw [List.getElem?_eq_getElem hi'] at ha;have ea:=Option.some.inj ha;have hOi:=h.row i hi hi' (by omega)
 have hg:g≠gx:=by
  have:=K7 h.outer hOi;rw [ea] at this;exact Ne.symm this
 have hOut:=hC.own hg h.outer
 have hh:hdV ad (F.set i r)=hdV ad F:=by
  have e:ad=ad.set i ad[i]:=(List.set_getElem_self hi').symm;have:=YA ad F i ad[i] r;rw [<-e] at this;rw [this];have hg2:=XT ad F i hi' hi;obtain ⟨hlt,he⟩:=List.getElem?_eq_some_iff.1 hg2;rw [hr,<-he,List.set_getElem_self]
 refine ⟨by rw [List.length_set];exact h.len,?_,λj hj hj' hj0 => ?_,λj k hj hk hj2 hk2 hj0 hk0 hjk => ?_⟩
 ·unfold Kd at hOut;rw [K5 _ _ h.len] at hOut;rw [List.length_set,hh];exact hOut
 ·rw [List.length_set] at hj
  by_cases hij:i=j
  ·subst hij;simp only [List.getElem_set_self];rw [ea];exact hO
  ·simp only [List.getElem_set_ne hij] at hj0 ⊢;have:=h.dis j i hj' hi' hj hi hj0 (by omega) (Ne.symm hij);rw [ea] at this;exact hC.own this (h.row j hj hj' hj0)
 ·rw [List.length_set] at hj2 hk2;refine h.dis j k hj hk hj2 hk2 ?_ ?_ hjk
  ·by_cases hij:i=j
   ·subst hij;omega
   ·simpa only [List.getElem_set_ne hij] using hj0
  ·by_cases hij:i=k
   ·subst hij;omega
   ·simpa only [List.getElem_set_ne hij] using hk0
theorem GrX.keep {B:Nat} {w w':World} {g cap:Nat} {F:Mx} {ad:List (Nat×Nat)} {R:Nat->Prop} (h:GrX B w (slv g F.length cap) F ad) (hC:Chg R w w') (hg : ¬R g) (ha : ∀i (h:i<ad.length) (h':i<F.length),0<F[i].length -> ¬R ad[i].1):GrX B w' (slv g F.length cap) F ad:=by
 have hOut:=hC.own hg h.outer;refine ⟨h.len,?_,λj hj hj' hj0=>hC.own (ha j hj' hj hj0) (h.row j hj hj' hj0),h.dis⟩;unfold Kd at hOut;rw [K5 _ _ h.len] at hOut;exact hOut
theorem GrX.swapped {B:Nat} {w:World} {g cap n i j gi ci gj cj:Nat} {F:Mx} {ad:List (Nat×Nat)} (h:GrX B w (slv g F.length cap) F ad) (hR:Ku n F) (hn:0<n) (hi:i<F.length) (hj:j<F.length) (hai:ad[i]? = some (gi,ci)) (haj:ad[j]? = some (gj,cj)) :
  GrX B ((w.setCell ⟨g,i,none⟩ (slv gj n cj)).setCell ⟨g,j,none⟩ (slv gi n ci)) (slv g F.length cap) (sw2 F [] i j) (sw2 ad (0,0) i j)
   /\ w.grownBy ((w.setCell ⟨g,i,none⟩ (slv gj n cj)).setCell ⟨g,j,none⟩ (slv gi n ci)) (some g)/\Ku n (sw2 F [] i j):=by
 have hi':i<ad.length:=by rw [h.len];exact hi
 have hj':j<ad.length:=by rw [h.len];exact hj
 have h1:=h.outer.set i (slv gj n cj);have h2:=h1.1.set j (slv gi n ci);have hG:=Kg h1.2 h2.2;have ei:ad.getD i (0,0)=(gi,ci):=by rw [List.getD_eq_getElem?_getD,hai];rfl
 have ej:ad.getD j (0,0)=(gj,cj):=by rw [List.getD_eq_getElem?_getD,haj];rfl
 have fi:(F.getD i []).length=n:=by rw [Ka hi];exact hR _ (List.getElem_mem hi)
 have fj:(F.getD j []).length=n:=by rw [Ka hj];exact hR _ (List.getElem_mem hj)
 have eh:hdV (sw2 ad (0,0) i j) (sw2 F [] i j)=((hdV ad F).set i (slv gj n cj)).set j (slv gi n ci):=by
  unfold sw2;rw [YA,YA,ei,ej,fi,fj,Qo hn,Qo hn]
 have hR2:Ku n (sw2 F [] i j):=λs hs=>by
  obtain ⟨t,ht,rfl⟩:=List.getElem_of_mem hs;rw [KS F [] hi hj ht];exact hR _ (List.getElem_mem _)
 refine ⟨⟨by simp [h.len],?_,λt ht ht' ht0 => ?_,λt u ht hu ht2 hu2 ht0 hu0 htu => ?_⟩,hG,hR2⟩
 ·have:=h2.1;unfold Kd at this;rw [<-eh,K5 _ _ (by simp [h.len]),Qi] at this;rw [Qi];exact this
 ·rw [KS F [] hi hj ht] at ht0 ⊢;rw [KS ad (0,0) hi' hj' ht'];have ht2:t<F.length:=by simpa using ht
  have hO:=h.row (sg i j t) (Y5 hi hj ht2) (Y5 hi' hj' (by simpa using ht')) ht0;exact hO.other hG (K7 h.outer hO)
 ·rw [KS F [] hi hj ht2] at ht0;rw [KS F [] hi hj hu2] at hu0;rw [KS ad (0,0) hi' hj' ht,KS ad (0,0) hi' hj' hu];exact h.dis _ _ _ _ (Y5 hi hj (by simpa using ht2)) (Y5 hi hj (by simpa using hu2)) ht0 hu0 (λe=>htu (Ki6 e))
def Z0 (w:World) (v:Value) (l:List Int):Prop := ∃sa gb go cap,v = .slice sa l.length cap/\l.length<=cap/\Sl w sa gb go (ss l)
def XK (w:World) (v:Value) (M:Mx):Prop := ∃sa gb go cap vs,v = .slice sa M.length cap/\M.length<=cap/\vs.length=M.length/\Sl w sa gb go vs /\ ∀i (h:i<M.length) (h':i<vs.length),Z0 w vs[i] M[i]
theorem Z0.ext {w w':World} {v:Value} {l:List Int} (h:Z0 w v l) (he:Ext w w'):Z0 w' v l:=by
 obtain ⟨sa,gb,go,cap,h1,h2,h3⟩:=h;exact ⟨sa,gb,go,cap,h1,h2,h3.ext he⟩
theorem XK.ext {w w':World} {v:Value} {M:Mx} (h:XK w v M) (he:Ext w w'):XK w' v M:=by
 obtain ⟨sa,gb,go,cap,vs,h1,h2,h3,h4,h5⟩:=h;exact ⟨sa,gb,go,cap,vs,h1,h2,h3,h4.ext he,λi a b=>(h5 i a b).ext he⟩
theorem Kd.intsR {B:Nat} {w:World} {g cap n:Nat} {l:List Int} (h:Kd 45 B w g cap (ss l)) (hn:l.length=n):Z0 w (slv g n cap) l:=by
 subst hn;exact ⟨_,g,0,cap,rfl,by have:=h.cap;simpa using this,h.sl⟩
theorem XK.row {w:World} {sa:Option Addr} {gb go:Nat} {vs:List Value} {M:Mx} (hS:Sl w sa gb go vs) (hl:vs.length=M.length) (hr : ∀i (h:i<M.length) (h':i<vs.length),Z0 w vs[i] M[i]) {i:Nat} (hi:i<M.length) :
  ∃sr br or cr,w.cell? ⟨gb,go+i,none⟩=some (.slice sr M[i].length cr)/\M[i].length<=cr/\Sl w sr br or (ss M[i]):=by
 obtain ⟨sr,br,or,cr,e,h1,h2⟩:=hr i hi (by omega);exact ⟨sr,br,or,cr,by rw [<-e];exact hS.cell i _ (List.getElem?_eq_getElem (by omega)),h1,h2⟩
theorem Kdf (F:Mx) (r:List Int) {j:Nat} (h:j<(F++[r]).length) (e:j=F.length):(F++[r])[j]=r:=by subst e;simp
section
variable {w:World} {ops:Array Oper} {rest:List Oper} {o:Oper} {a:Act} {Q:Exit->Act->World->Prop}
theorem KgH (hgd:o.guard=none) (s x:Operand) (ho:o.op = .call { callee := .builtin .append,args := #[s,x],argTypes := #[110,110] })
  {B:Nat} {v:Value} {F:Mx} {r:List Int} {ad:List (Nat×Nat)} {g0 c0:Nat} (hs:a.eval s=v) (hown:GrX B w v F ad) {b:Nat} (hx:a.eval x = .slice (some ⟨b,0,none⟩) 1 1) (hc:w.cell? ⟨b,0,none⟩=some (xv r.length g0 c0)) (hr:0<r.length->Kd 45 B w g0 c0 (ss r)) (hnew:0<r.length -> ∀i (h:i<ad.length) (h':i<F.length),0<F[i].length->ad[i].1≠g0) (hl:F.length<=1000000000) (hB:B<=w.heap.size)
  (h : ∀g cap w',GrX B w' (slv g (F.length+1) cap) (F++[r]) (ad++[(g0,c0)])->Below B w w'->w.grownBy w' v.ownBlock->wpList Tryz.prog ops Q rest (a.put o.dst (slv g (F.length+1) cap)) w'):wpList Tryz.prog ops Q (o::rest) a w:=by
 obtain ⟨i0,hi,hz0,hz1,hz2⟩:=info_parts Tryz.infoInts;obtain ⟨hlen,h2,h3,hdis⟩:=hown;refine wpList_append_lies w hgd s x 110 ho B 108 i0 _ 1 24 Tryz.underlying110 hi hz0 hz1 hz2 rfl (by omega) v F.length (hdV ad F) hs h2 ⟨b,0,none⟩ 1 1 [xv r.length g0 c0] hx rfl ?_ ?_ (by omega) (by unfold maxLen;omega) (by omega) hB w.heap.size rfl ?_
 ·intro j u hj;have:j=0:=by have:=(List.getElem?_eq_some_iff.1 hj).1;simp at this;omega
  subst this;simp only [List.getElem?_cons_zero,Option.some.injEq] at hj;subst hj;simpa [Addr.add_lit] using hc
 ·intro u hu;simp only [List.mem_cons,List.not_mem_nil,or_false] at hu;subst hu;unfold xv;split<;>rfl
 ·intro g cap w' k1 k2 k3 k4
  have hkeep : ∀{u cu:Nat} {l:List Int},Kd 45 B w u cu (ss l)->Kd 45 B w' u cu (ss l):=λ{u cu l} hu=>by
   have h5:w.ownsRow B 45 1 (slv u (ss l).length cu) (ss l).length (ss l):=hu;exact Ks h5 h2 (by decide) k2
  refine h g cap w' ⟨by simp [hlen],?_,λi hi1 hi2 hi0 => ?_,λi j hi1 hj1 hi2 hj2 hi0 hj0 hij => ?_⟩ (Below.grown (Below.refl _ _) k2 hB (λq hq=>(World.ownsRow.lt h2 q hq).1)) k2
  ·rw [List.length_append,KdM ad F (g0,c0) r hlen];exact k1
  ·rcases Nat.lt_or_ge i F.length with hlt | hge
   ·simp only [List.getElem_append_left hlt,List.getElem_append_left (show i<ad.length by omega)] at hi0 ⊢;exact hkeep (h3 i hlt (by omega) hi0)
   ·have hie:i=F.length:=by simp at hi1;omega
    subst hie;simp only [List.getElem_append_right (Nat.le_refl F.length),List.getElem_append_right (show ad.length<=F.length by omega),hlen,Nat.sub_self,List.getElem_cons_zero] at hi0 ⊢;exact hkeep (hr hi0)
  ·rw [List.length_append,List.length_singleton] at hi1 hj1 hi2 hj2
   rcases Nat.lt_or_ge i ad.length with hil | hig
   ·rw [List.getElem_append_left hil];rw [List.getElem_append_left (show i<F.length by omega)] at hi0
    rcases Nat.lt_or_ge j ad.length with hlt | hge
    ·rw [List.getElem_append_left hlt];rw [List.getElem_append_left (show j<F.length by omega)] at hj0;exact hdis i j (by omega) hlt (by omega) (by omega) hi0 hj0 hij
    ·have hje:j=ad.length:=by omega
     subst hje;rw [List.getElem_append_right (Nat.le_refl _)];rw [Kdf F r _ hlen] at hj0;simp only [Nat.sub_self,List.getElem_cons_zero];exact hnew hj0 i hil (by omega) hi0
   ·have hie:i=ad.length:=by omega
    subst hie;rw [List.getElem_append_right (Nat.le_refl _),List.getElem_append_left (show j<ad.length by omega)];rw [List.getElem_append_left (show j<F.length by omega)] at hj0;rw [Kdf F r _ hlen] at hi0;simp only [Nat.sub_self,List.getElem_cons_zero];exact Ne.symm (hnew hi0 j (by omega) (by omega) hj0)
end
theorem KlL (u:Nat):I (u:Int)=D u:=by unfold I D;rw [Yk]
theorem Kmh {u v:Nat} (hu:Lib.nDigits u<LIM) (hv:Lib.nDigits v<LIM) {w:World} (hL:Laid w) :
  Calls Tryz.prog 121 #[D u,D v] w λe w'=>e = .returned (D (Nat.gcd u v))/\Ext w w':=by
 have HL:=hid hL;obtain ⟨g,hg⟩ : ∃g,g=Nat.gcd u v:=⟨_,rfl⟩
 have H0:=hid (⟨hu,hv,hg.symm⟩:Lib.nDigits u<LIM/\Lib.nDigits v<LIM/\Nat.gcd u v=g);rw [<-hg];clear hL hu hv hg
 go_enter Tryz.func121,Tryz.ntmps121
 go_wp2_with fail
 go_loopg [0,1,5,6,7] v (λk av bv _ _ _ wr => ∃(x y:Nat),av=D x/\bv=D y/\k=y/\Hid (Lib.nDigits x<LIM/\Lib.nDigits y<LIM/\Nat.gcd x y=g)/\Ext w wr)
 case atStart=>exact ⟨u,v,rfl,rfl,rfl,hid ⟨H0.out.1,H0.out.2.1,H0.out.2.2⟩,Ext.refl _⟩
 case round =>
  obtain ⟨x,y,rfl,rfl,rfl,HK,hE⟩:=hrel;generalize wr=V at *
  by_cases hy:gk=0
  ·have hvz:(Lib.decDigits gk==[48])=true:=by rw [Q9,decide_eq_true hy]
   have Hg:=hid (show g=x by have:=HK.out.2.2;rw [hy,Nat.gcd_zero_right] at this;exact this.symm);clear hy;go_wp2_with fail;go_ret;exact ⟨KN (by rw [Hg.out];rfl),hE⟩
  ·have hvz:(Lib.decDigits gk==[48])=false:=by rw [Q9,decide_eq_false hy]
   have hdm:=hid (Kcz HK.out.1 HK.out.2.1 hy (HL.out.ext hE));have Hm:=hid (Nat.mod_lt x (Nat.pos_of_ne_zero hy));have HK2:=hid (show Lib.nDigits gk<LIM/\Lib.nDigits (x%gk)<LIM/\Nat.gcd gk (x%gk)=g from ⟨HK.out.2.1,Nat.lt_of_le_of_lt (Qx (Nat.le_of_lt Hm.out)) HK.out.2.1,by rw [<-HK.out.2.2,Nat.gcd_comm gk,<-Nat.gcd_rec,Nat.gcd_comm]⟩);generalize x%gk=r at *;clear hy HK;go_wp2_with fail;refine hdm.out.mono ?_;rintro e w1 ⟨rfl,hE1⟩;go_wp2_with fail
   go_roundg r
   case measure=>exact Hm.out
   case rel=>exact ⟨gk,r,rfl,rfl,rfl,HK2,hE.trans hE1⟩
theorem KnU {u v:Nat} (hu:u<1000000000000000000) (hv:v<1000000000000000000) (w:World) :
  Calls Tryz.prog 120 #[.int .i64 u,.int .i64 v] w λe w'=>e = .returned (.int .i64 (Nat.gcd u v:Nat))/\Ext w w':=by
 obtain ⟨g,hg⟩ : ∃g,g=Nat.gcd u v:=⟨_,rfl⟩
 have H0:=hid hg.symm;rw [<-hg];clear hg
 go_enter Tryz.func120,Tryz.ntmps120
 go_wp2_with fail
 go_loopg [0,1] v (λk av bv wr => ∃(x y:Nat),av = .int .i64 x/\bv = .int .i64 y/\k=y/\x<1000000000000000000/\y<1000000000000000000/\Hid (Nat.gcd x y=g)/\Ext w wr)
 case atStart=>exact ⟨u,v,rfl,rfl,rfl,hu,hv,H0,Ext.refl _⟩
 case round =>
  obtain ⟨x,y,rfl,rfl,rfl,hx,hy,HK,hE⟩:=hrel;generalize wr=V at *
  by_cases hz:gk=0
  ·subst hz;have Hg:=hid (show g=x by have:=HK.out;rw [Nat.gcd_zero_right] at this;exact this.symm);go_wp2_with fail;go_ret;exact ⟨KN (by rw [Hg.out];rfl),hE⟩
  ·have hzi:((gk:Int)==0)=false:=beq_eq_false_iff_ne.2 (by omega);have hr:Int.tmod (x:Int) (gk:Int)=((x%gk:Nat):Int):=by rw [Int.tmod_eq_emod_of_nonneg (by omega)];omega
   have Hm:=Nat.mod_lt x (Nat.pos_of_ne_zero hz);have HK2:=hid (show Nat.gcd gk (x%gk)=g by rw [<-HK.out,Nat.gcd_comm gk,<-Nat.gcd_rec,Nat.gcd_comm]);generalize x%gk=r at *;clear hz HK;go_wp2_with fail
   go_quiet (fail)
   go_wp2_with fail
   go_roundg r
   case measure=>exact Hm
   case rel=>exact ⟨gk,r,rfl,rfl,rfl,hy,by omega,HK2,hE.drewN _⟩
theorem KmJ {z:Int}:Kt 18 (z.natAbs:Int)=decide (Lib.nDigits z.natAbs<=18):=by
 unfold Kt;rw [Yk,Lib.decDigits_length]
theorem Kif {a b:Int} (ha:nd a<LIM) (hb:nd b<LIM) {w:World} (hL:Laid w) :
  Calls Tryz.prog 76 #[I a,I b] w λe w'=>e = .returned (I (Nat.gcd a.natAbs b.natAbs:Nat))/\Ext w w':=by
 have HL:=hid hL;have h1:=hid (Kag (z:=a) (Nat.le_of_lt ha));have h2:=hid (Kag (z:=b) (Nat.le_of_lt hb));have l1:=hid (K6 (z:=(a.natAbs:Int)) (m:=18) (by show Lib.nDigits _<=_;rw [Int.natAbs_natCast];exact Nat.le_of_lt ha) (by omega));have l2:=hid (K6 (z:=(b.natAbs:Int)) (m:=18) (by show Lib.nDigits _<=_;rw [Int.natAbs_natCast];exact Nat.le_of_lt hb) (by omega));have hdg:=hid (λw hL=>Kmh (u:=a.natAbs) (v:=b.natAbs) (w:=w) ha hb hL);rw [KmJ] at l1 l2;rw [KlL];rw [KlL] at h1 h2 l1 l2;clear hL ha hb;generalize a.natAbs=u at *;generalize b.natAbs=v at *
 by_cases hs1:Lib.nDigits u<=18
 ·rw [decide_eq_true hs1] at l1
  by_cases hs2:Lib.nDigits v<=18
  ·rw [decide_eq_true hs2] at l2;rw [if_pos rfl] at l1 l2;have b1:=KE hs1;have b2:=KE hs2
   have hgl:Nat.gcd u v<1000000000000000000:=by
    by_cases h0:u=0
    ·subst h0;rw [Nat.gcd_zero_left];omega
    ·have:=Nat.gcd_le_left v (Nat.pos_of_ne_zero h0);omega
   have hg:=hid (KnU (u:=u) (v:=v) (by omega) (by omega));have hof:=hid (λw hL=>Qb (n:=(Nat.gcd u v:Nat)) (w:=w) (by omega) (by omega) hL);rw [KlL] at hof;clear hs1 hs2 hdg b1 b2;generalize Nat.gcd u v=g at *
   go_enter Tryz.func76,Tryz.ntmps76
   go_wp2_with fail;refine (h1.out _).mono ?_;rintro e w1 ⟨rfl,hE1⟩;go_wp2_with fail;refine (h2.out _).mono ?_;rintro e w2 ⟨rfl,hE2⟩;go_wp2_with fail;refine (l1.out _).mono ?_;rintro e w3 ⟨rfl,hE3⟩;go_wp2_with fail;refine (l2.out _).mono ?_;rintro e w4 ⟨rfl,hE4⟩;go_wp2_with fail;refine (hg.out _).mono ?_;rintro e w5 ⟨rfl,hE5⟩;go_wp2_with fail;have hE:=(((hE1.trans hE2).trans hE3).trans hE4).trans hE5;refine (hof.out _ (HL.out.ext hE)).mono ?_;rintro e w6 ⟨rfl,hE6⟩;go_wp2_with fail;go_ret;exact ⟨rfl,hE.trans hE6⟩
  ·rw [decide_eq_false hs2] at l2;rw [if_pos rfl] at l1;clear hs1 hs2
   go_enter Tryz.func76,Tryz.ntmps76
   go_wp2_with fail;refine (h1.out _).mono ?_;rintro e w1 ⟨rfl,hE1⟩;go_wp2_with fail;refine (h2.out _).mono ?_;rintro e w2 ⟨rfl,hE2⟩;go_wp2_with fail;refine (l1.out _).mono ?_;rintro e w3 ⟨rfl,hE3⟩;go_wp2_with fail;refine (l2.out _).mono ?_;rintro e w4 ⟨rfl,hE4⟩;go_wp2_with fail;have hE:=((hE1.trans hE2).trans hE3).trans hE4;refine (hdg.out _ (HL.out.ext hE)).mono ?_;rintro e w5 ⟨rfl,hE5⟩;go_wp2_with fail;go_ret;exact ⟨rfl,hE.trans hE5⟩
 ·rw [decide_eq_false hs1] at l1;clear hs1
  go_enter Tryz.func76,Tryz.ntmps76
  go_wp2_with fail;refine (h1.out _).mono ?_;rintro e w1 ⟨rfl,hE1⟩;go_wp2_with fail;refine (h2.out _).mono ?_;rintro e w2 ⟨rfl,hE2⟩;go_wp2_with fail;refine (l1.out _).mono ?_;rintro e w3 ⟨rfl,hE3⟩;go_wp2_with fail;have hE:=(hE1.trans hE2).trans hE3;refine (hdg.out _ (HL.out.ext hE)).mono ?_;rintro e w5 ⟨rfl,hE5⟩;go_wp2_with fail;go_ret;exact ⟨rfl,hE.trans hE5⟩
end
end Go.Proofs.YtdmaofimeknkbaaGreatDoor
