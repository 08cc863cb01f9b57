/- Part 51 of the proof of the claim: contracts of the functions that it reaches, and plain laws; no condition. -/
import Derived.Test.YtdmaofimeknkbaaGreatDoorQ02
import Derived.Test.YtdmaofimeknkbaaGreatDoorQ11
import Derived.Test.YtdmaofimeknkbaaGreatDoorRows
import Derived.ProofKit
import Derived.LaidMore
import Derived.OpenShut
import Derived.Stop.Joined
import Derived.Stop.LaidErr
import Derived.Lib.LaidTab
import Derived.Deep.Matrix
import Derived.Test.YtdmaofimeknkbaaGreatDoorQ44
import Derived.Test.YtdmaofimeknkbaaGreatDoorQ50
import Derived.Test.YtdmaofimeknkbaaGreatDoorCards
import Derived.Test.YtdmaofimeknkbaaGreatDoorTie
import Derived.SevenTiedAt
set_option maxRecDepth 100000
set_option maxHeartbeats 20000000
namespace Go.Proofs.YtdmaofimeknkbaaGreatDoor
section
open Go.ChangeShapes Go.WideShapes Go.ChangeAt Go.WideMaps Go.WideElems Go.RowKit Go.Deep
theorem KpX:ownKnob Tryz.prog.godebug=none:=by kernel_rfl
theorem KdK:laidOutB Tryz.prog=true:=by kernel_rfl
theorem fr_pow : Tryz.prog.globalNamed "internal/strconv.uint64pow10" = some 0 := by kernel_rfl
theorem Kop:(Tryz.prog.globals[0]?).map (·.type)=some 235:=by kernel_rfl
theorem fr_rng : Tryz.prog.globalNamed "strconv.ErrRange" = some 2 := by kernel_rfl
theorem Koq:(Tryz.prog.globals[2]?).map (·.type)=some 175:=by kernel_rfl
theorem KpV:Tryz.prog.cellsOf 235=20:=by kernel_rfl
theorem KqV:Tryz.prog.cellsOf 191=1:=by kernel_rfl
theorem KqT:Tryz.prog.cellsOf 249=1:=by kernel_rfl
theorem KqU:Tryz.prog.cellsOf 9=1:=by kernel_rfl
theorem fr_star : "*" ++ "errors.errorString" = "*errors.errorString" := by decide
theorem fr_ptr (u : TypeId) (h : Tryz.prog.typeName? 3 u = some "*errors.errorString") : u = 247 :=
 typeName_ptr_named (nm := "errors.errorString") (by rw [fr_star]; kernel_rfl) (by kernel_rfl) (by decide) u (by rw [fr_star]; exact h)
abbrev fr_list : List (String × DataW Unit) := [("math/bits.deBruijn32tab", Rows.laid_math_bits_deBruijn32tab), ("math/bits.deBruijn64tab", Rows.laid_math_bits_deBruijn64tab), ("internal/strconv.uint64pow10", Rows.laid_internal_strconv_uint64pow10), ("strconv.ErrRange", Rows.laid_strconv_ErrRange), ("strconv.ErrSyntax", Rows.laid_strconv_ErrSyntax)]
theorem KpY:(Rows.laid_internal_strconv_uint64pow10:DataW Unit)=Lib.tabData .u64 Lib.pow10Tab:=by kernel_rfl
theorem KoC {W:World} (h:laidMetH Tryz.prog fr_list W):Laid W:=by
 rw [MakeChecks.laidMetH_plain _ _ _ (by kernel_rfl)] at h;have h3:=h.tail.tail;rw [KpY] at h3;refine ⟨Lib.tabIs_of_head fr_pow Kop Tryz.underlying235 Tryz.underlying191 KqV KpV h3,?_⟩;obtain ⟨a,s,hv,_⟩:=laid_sentinel h3.tail fr_rng Koq Tryz.underlying175 fr_ptr Tryz.underlying247 Tryz.underlying249 rfl rfl Tryz.underlying9 KqT KqU;exact ⟨_,_,hv⟩
theorem Kmk (os:Os) (args:Array Value):laidMetH Tryz.prog fr_list ((World.doorLaid Tryz.prog 400 os).forCall (λ_ _=>0) ⟨#[],args,[]⟩).memory :=
 laidMetH_of_parts3 (fuel:=8) (laidMet_of_run' 8 (by kernel_rfl) (by kernel_rfl)) (by kernel_rfl) (by kernel_rfl)
theorem KqS:Tryz.prog.cellsOf 22=1:=by kernel_rfl
theorem Kh6 {l:List Value} {k:Nat} {x:Value} (h:(l.drop k).take 1=[x]):l[k]? = some x:=by
 have:=congrArg (·[0]?) h;simpa [List.getElem?_take] using this
theorem Kfh {n:Int} (h:(Lit.int .i8 n).wf=true) : -128<=n/\n<=127:=by
 simp only [Lit.wf,Bool.and_eq_true,decide_eq_true_eq] at h;have e1:IntKind.i8.min = -128:=by rfl
 have e2:IntKind.i8.max=127:=by rfl
 omega
theorem KlE {n:Int} (h:(Lit.int .u8 n).wf=true):0<=n/\n<=255:=by
 simp only [Lit.wf,Bool.and_eq_true,decide_eq_true_eq] at h;have e1:IntKind.u8.min=0:=by rfl
 have e2:IntKind.u8.max=255:=by rfl
 omega
theorem Khd {H:Type} {enc:TypeId×Value->H} {W:World} {base:Nat} {sp:Nat->Bool} {held:Bool} {fuel n:Nat} {t:TypeId} {l:List Value} {x:DataW H×List MemPlace} (ht:Tryz.prog.underlying t=some (.array n 22))
  (h:DataW.trod enc Tryz.prog W base sp held fuel t l=some x) : ∀j,j<n -> ∃z:Int,l[j]? = some (.int .i8 z) /\ -128<=z/\z<=127:=by
 obtain ⟨xs,m,_,_,_,hxl,hx⟩:=DataW.trod_array ht h;intro j hj;have h1:=hx j hj;rw [KqS,Nat.mul_one,List.getElem?_eq_getElem (by omega)] at h1;obtain ⟨z,hz,_,hw⟩:=DataW.trod_int Tryz.underlying22 h1;exact ⟨z,Kh6 hz,Kfh hw⟩
theorem Koo:Tryz.prog.cellsOf 27=9:=by kernel_rfl
theorem KpW:Tryz.prog.cellsOf 23=3:=by kernel_rfl
theorem KlF {H:Type} {enc:TypeId×Value->H} {W:World} {base:Nat} {sp:Nat->Bool} {held:Bool} {fuel:Nat} {l:List Value} {x:DataW H×List MemPlace}
  (h:DataW.trod enc Tryz.prog W base sp held fuel 24 l=some x) : ∀i,i<2 -> ∀j,j<3 -> ∃z:Int,l[i*3+j]? = some (.int .i8 z) /\ -128<=z/\z<=127:=by
 obtain ⟨xs,m,_,_,_,hxl,hx⟩:=DataW.trod_array Tryz.underlying24 h;intro i hi j hj;have h1:=hx i hi;rw [KpW,List.getElem?_eq_getElem (by omega)] at h1;obtain ⟨z,hz,hb⟩:=Khd Tryz.underlying23 h1 j hj;rw [List.getElem?_take,if_pos (by omega),List.getElem?_drop] at hz;exact ⟨z,hz,hb⟩
def iv8 (v:Option Value):Int:=match v with
 | some (.int _ z)=>if -128<=z/\z<=127 then z else 0
 | _=>0
theorem Kpm (v:Option Value) : -128<=iv8 v/\iv8 v<=127:=by
 unfold iv8;split
 ·split<;>omega
 ·omega
theorem KmR {v:Option Value} {z:Int} (h:v=some (.int .i8 z)) (hb : -128<=z/\z<=127):v=some (.int .i8 (iv8 v)):=by
 subst h;have:iv8 (some (.int .i8 z))=z:=by unfold iv8;simp [hb]
 rw [this]
theorem Kq1 {l:List Value} {a b c d e f g h i:Value} (hl:l.length=9) (h0:l[0]? = some a) (h1:l[1]? = some b) (h2:l[2]? = some c) (h3:l[3]? = some d) (h4:l[4]? = some e) (h5:l[5]? = some f) (h6:l[6]? = some g) (h7:l[7]? = some h) (h8:l[8]? = some i):l=[a,b,c,d,e,f,g,h,i]:=by
 refine List.ext_getElem? λn => ?_
 match n with
 | 0=>exact h0
 | 1=>exact h1
 | 2=>exact h2
 | 3=>exact h3
 | 4=>exact h4
 | 5=>exact h5
 | 6=>exact h6
 | 7=>exact h7
 | 8=>exact h8
 | n+9=>rw [List.getElem?_eq_none (by omega),List.getElem?_eq_none (by simp)]
theorem KhI {H:Type} {enc:TypeId×Value->H} {W:World} {base:Nat} {sp:Nat->Bool} {held:Bool} {fuel:Nat} {cs:Array Value} {x:DataW H×List MemPlace} (hs:cs.size=9)
  (h:DataW.trod enc Tryz.prog W base sp held fuel 27 cs.toList=some x) : ∃(p:Int) (u:Nat->Nat->Int) (o:Nat->Int),Value.agg cs=plv p u o/\(0<=p/\p<=255)/\(∀i k,-128<=u i k/\u i k<=127) /\ ∀i,-128<=o i/\o i<=127:=by
 obtain ⟨xs,n,_,_,_,hxl,hx⟩:=DataW.trod_struct Tryz.underlying27 h;have hx3:xs.length=3:=hxl;have h0:=hx 0 _ rfl;have h1:=hx 1 _ rfl;have h2:=hx 2 _ rfl;rw [List.getElem?_eq_getElem (by omega)] at h0 h1 h2;have h0':DataW.trod enc Tryz.prog W base sp held n 5 ((cs.toList.drop 0).take 1)=some xs[0]:=h0;have h1':DataW.trod enc Tryz.prog W base sp held n 24 ((cs.toList.drop 1).take 6)=some xs[1]:=h1;have h2':DataW.trod enc Tryz.prog W base sp held n 25 ((cs.toList.drop 7).take 2)=some xs[2]:=h2;obtain ⟨a,ha,_,wa⟩:=DataW.trod_int Tryz.underlying5 h0';have hu:=KlF h1';have ho:=Khd Tryz.underlying25 h2';have hl:cs.toList.length=9:=by simpa using hs
 have ku : ∀i k,i<2->k<3->cs.toList[1+(i*3+k)]? = some (.int .i8 (iv8 cs.toList[1+(i*3+k)]?)):=λi k hi hk=>by
  obtain ⟨z,hz,hb⟩:=hu i hi k hk;rw [List.getElem?_take,if_pos (by omega),List.getElem?_drop] at hz;exact KmR hz hb
 have ko : ∀i,i<2->cs.toList[7+i]? = some (.int .i8 (iv8 cs.toList[7+i]?)):=λi hi=>by
  obtain ⟨z,hz,hb⟩:=ho i hi;rw [List.getElem?_take,if_pos (by omega),List.getElem?_drop] at hz;exact KmR hz hb
 refine ⟨a,λi k=>iv8 cs.toList[1+(i*3+k)]?,λi=>iv8 cs.toList[7+i]?,?_,KlE wa,λi k=>Kpm _,λi=>Kpm _⟩;have:=Kq1 hl (Kh6 ha) (ku 0 0 (by omega) (by omega)) (ku 0 1 (by omega) (by omega)) (ku 0 2 (by omega) (by omega)) (ku 1 0 (by omega) (by omega)) (ku 1 1 (by omega) (by omega)) (ku 1 2 (by omega) (by omega)) (ko 0 (by omega)) (ko 1 (by omega));have h3:=congrArg List.toArray this;rw [Array.toArray_toList] at h3;exact congrArg Value.agg h3
theorem fokkerFamilies_lifted (os:Os) (started:os.Started) (H:Type) (enc:TypeId×Value->H) :
  ReturnsInHanded {} Tryz.checked os 3 .any (λw args=>(Rows.fokkerFamiliesSpec.pre enc Tryz.prog Tryz.f3 [] false w args/\laidMetH Tryz.prog fr_list w)/\sizedMet enc Tryz.prog Tryz.f3 (OpenSpec.ofChange Rows.fokkerFamiliesSpec) false w args)
   (Rows.fokkerFamiliesSpec.post enc Tryz.prog Tryz.f3 false true false false):=by
 refine returnsInHanded_of_change_and (C:=Tryz.checked) (X:=λw _=>laidMetH Tryz.prog fr_list w) (λ_ _ _ hh h=>h.of_heap hh) KpX started (by kernel_rfl) Tryz.func3
  (ChangeSpec.witness_shaped (enc:=enc) (C:=Tryz.checked) (os:=os) (X:=λw _=>laidMetH Tryz.prog fr_list w) false (World.doorLaid Tryz.prog 400 os) #[.agg #[.int .u8 0,.int .i8 0,.int .i8 0,.int .i8 0,.int .i8 0,.int .i8 0,.int .i8 0,.int .i8 0,.int .i8 0],.int .i8 0] 8 rfl (World.shaped_of_RefB (by kernel_rfl) (by kernel_rfl)) (by kernel_rfl) (by kernel_rfl) (by kernel_rfl) (Kmk os _)) ?_
 intro W base args ds gs before hval0 hW _ _ hL _;have hval : ∀(j:Nat) t v,Tryz.f3.params[j]? = some t->args[j]? = some v->Value.okWide Tryz.prog W .any base t v:=hval0;have hW':=hW;obtain ⟨p,q,hA0,hV,rfl,hfz,hnd⟩:=hW;have hA:DataW.TrodAll enc Tryz.prog W 0 (λ_=>true) true Tryz.f3.params.toList args.toList ds p:=hA0;rw [Tryz.params3] at hA hval;obtain ⟨v0,v1,d0,d1,p0,p1,rfl,rfl,rfl,h0,h1⟩:=trodAll_two hA;obtain ⟨rfl,rfl⟩:=trodVars_none hV;obtain ⟨cs0,rfl,hs0⟩:=okWide_struct Tryz.underlying27 (hval 0 27 v0 rfl rfl);rw [Koo] at hs0;obtain ⟨n1,rfl,e1,_,w1⟩:=open_int Tryz.underlying22 (hval 1 22 v1 rfl rfl) h1;have h0k:=h0;have h1k:=h1;obtain ⟨fuel0,hf0⟩:=h0;obtain ⟨pp0,pu0,po0,hPv0,hp0,hu0,ho0⟩:=KhI hs0 hf0;rw [hPv0] at h0k hW' ⊢;have b1:=Kfh w1;clear hA0 hval0 hf0;simp only [List.append_nil] at hW';have hlt : ∀z∈p0++p1,z.block<W.heap.size:=λz hz=>by simpa using hW'.lt z hz
 refine (KkN hp0 hu0 ho0 b1 (KoC hL)).mono ?_;rintro e W' ⟨rfl,hE⟩;have e1:Rows.fokkerFamiliesSpec.fn H ([d0,d1]++[]) = { results:=[.lit (.bool true)],args:=[d0,d1] }:=rfl;refine ⟨_,rfl,_,_,_,[],p0++p1,[],hW',?_,?_,?_,hE.frame _,λh=>by cases h⟩
 ·rw [e1];exact trodAll_mk1 (shut_bool Tryz.underlying4 true)
 ·rw [e1];exact trodAll_mk2 (Below.trod KdK (by kernel_rfl) (of_decide_eq_true (by kernel_rfl)) h0k hE λx hx=>hlt x (by simp [hx])) (Below.trod KdK (by kernel_rfl) (of_decide_eq_true (by kernel_rfl)) h1k hE λx hx=>hlt x (by simp [hx]))
 ·rw [e1];rfl
theorem fokkerFamilies_holds:Rows.FokkerFamiliesSaid :=
 OpenClaim.holds_of_wide 3 Tryz.f3 rfl rfl rfl rfl rfl rfl rfl ⟨rfl,rfl,rfl,rfl,rfl⟩ rfl rfl rfl rfl rfl (by as_aux_lemma=>kernel_rfl) Tryz.func3 (by
   unfold joinedFacts;simp only [Bool.and_eq_true]
   repeat' apply And.intro
   all_goals (as_aux_lemma=>kernel_rfl))
  (of_decide_eq_true (by kernel_rfl)) (by unfold Func.isWrapper;first | (rw [if_pos (by decide +kernel)];kernel_rfl) | (rw [if_neg (by decide +kernel)];exact ⟨rfl,rfl⟩))
  (λos started H enc _=>fokkerFamilies_lifted os started H enc)
theorem fokkerFamilies_card:Rows.FokkerFamiliesCardSaid :=
 Claim7.holds_tied_plain_at .later [] [.data,.data,.data,.sentinel,.sentinel] true Rows.fokkerFamiliesCard.stood.harness true
  fokkerFamilies_holds (λ_ h=>by cases h) (by as_aux_lemma=>kernel_rfl) (λ_ h=>by cases h) fokkerFamilies_row_tie rfl ⟨rfl,rfl⟩ (by as_aux_lemma=>kernel_rfl) rfl
  (λf fn hf hfn=>by
   obtain rfl : f = 3 := Option.some.inj ((show Tryz.prog.funcNamed "schisma/schismalaw36.FokkerFamilies" = some 3 by as_aux_lemma => kernel_rfl).symm.trans hf) |>.symm
   obtain rfl:fn=Tryz.f3:=(Option.some.inj (Tryz.func3.symm.trans hfn)).symm
   exact ⟨by as_aux_lemma=>kernel_rfl,λj t ht=>by
    rw [Tryz.params3] at ht;have hm:t∈[27,22]:=by simpa using Array.mem_of_getElem? ht
    have hall:([27,22].all λu => !Tryz.prog.wantsStandIn u)=true:=by as_aux_lemma=>kernel_rfl
    exact (show Tryz.prog.wantsStandIn t=false by simpa using List.all_eq_true.1 hall t hm)⟩)
  (by as_aux_lemma=>kernel_rfl)
#print axioms fokkerFamilies_card
end
end Go.Proofs.YtdmaofimeknkbaaGreatDoor
