/- Part 44 of the proof of the claim: contracts of the functions that it reaches, and plain laws; no condition. -/
import Derived.Test.YtjnpakablgommaaGreatDoorV43
import Derived.Test.YtjnpakablgommaaGreatDoorV33
import Derived.Test.YtjnpakablgommaaGreatDoorCards
import Derived.Test.YtjnpakablgommaaGreatDoorTie
import Derived.SevenTiedAt
set_option maxRecDepth 100000
namespace Go.Proofs.YtjnpakablgommaaGreatDoor
open Go.ChangeShapes Go.WideShapes Go.ChangeAt Go.WideMaps Go.WideElems Go.RowKit Go.Deep
theorem fr_cP24:Tryz.prog.cellsOf 58=35:=by kernel_rfl
theorem fr_cPart:Tryz.prog.cellsOf 53=2:=by kernel_rfl
theorem fr_cParts:Tryz.prog.cellsOf 55=8:=by kernel_rfl
def zval (v:Option Value):Int:=match v with
 | some (.int _ z)=>z
 | _=>0
theorem part_cells {H:Type} {enc:TypeId×Value→H} {W:World} {base:Nat} {sp:Nat→Bool} {held:Bool} {fuel:Nat} {l:List Value} {x:DataW H×List MemPlace}
  (h:DataW.trod enc Tryz.prog W base sp held fuel 53 l=some x) : ∃ a b:Int,l[0]? = some (.int .i8 a)∧l[1]? = some (.int .u8 b)∧(0≤b∧b≤255):=by
 obtain ⟨xs,n,_,_,_,hxl,hx⟩:=DataW.trod_struct Tryz.underlying53 h
 have hx3:xs.length=2:=hxl
 have h0:=hx 0 _ rfl
 have h1:=hx 1 _ rfl
 rw [List.getElem?_eq_getElem (by omega)] at h0 h1
 have h0':DataW.trod enc Tryz.prog W base sp held n 51 ((l.drop 0).take 1)=some xs[0]:=h0
 have h1':DataW.trod enc Tryz.prog W base sp held n 5 ((l.drop 1).take 1)=some xs[1]:=h1
 obtain ⟨a,ha,_,_⟩:=DataW.trod_int Tryz.underlying51 h0'
 obtain ⟨b,hb,_,wb⟩:=DataW.trod_int Tryz.underlying5 h1'
 exact ⟨a,b,take_one ha,take_one hb,u8_bounds wb⟩
theorem parts_cells {H:Type} {enc:TypeId×Value→H} {W:World} {base:Nat} {sp:Nat→Bool} {held:Bool} {fuel:Nat} {l:List Value} {x:DataW H×List MemPlace}
  (h:DataW.trod enc Tryz.prog W base sp held fuel 55 l=some x) : ∀ j,j<4 → ∃ a b:Int,l[2*j]? = some (.int .i8 a)∧l[2*j+1]? = some (.int .u8 b)∧(0≤b∧b≤255):=by
 obtain ⟨xs,m,_,_,_,hxl,hx⟩:=DataW.trod_array Tryz.underlying55 h
 intro j hj
 have h1:=hx j hj
 rw [fr_cPart,List.getElem?_eq_getElem (by omega)] at h1
 obtain ⟨a,b,ha,hb,hr⟩:=part_cells h1
 rw [List.getElem?_take,if_pos (by omega),List.getElem?_drop] at ha hb
 exact ⟨a,b,by rw [Nat.mul_comm]; exact ha,by rw [Nat.mul_comm]; exact hb,hr⟩
theorem gens_cells {H:Type} {enc:TypeId×Value→H} {W:World} {base:Nat} {sp:Nat→Bool} {held:Bool} {fuel:Nat} {l:List Value} {x:DataW H×List MemPlace}
  (h:DataW.trod enc Tryz.prog W base sp held fuel 56 l=some x) : ∀ i,i<4 → ∀ j,j<4 → ∃ a b:Int,l[i*8+2*j]? = some (.int .i8 a)∧l[i*8+2*j+1]? = some (.int .u8 b)∧(0≤b∧b≤255):=by
 obtain ⟨xs,m,_,_,_,hxl,hx⟩:=DataW.trod_array Tryz.underlying56 h
 intro i hi j hj
 have h1:=hx i hi
 rw [fr_cParts,List.getElem?_eq_getElem (by omega)] at h1
 obtain ⟨a,b,ha,hb,hr⟩:=parts_cells h1 j hj
 rw [List.getElem?_take,if_pos (by omega),List.getElem?_drop] at ha hb
 exact ⟨a,b,ha,hb,hr⟩
def plA (l:List Value) (i t:Nat):Int:=if i<4∧t<4 then zval l[i*8+2*t]? else 0
def plB (l:List Value) (i t:Nat):Int:=if i<4∧t<4 then zval l[i*8+2*t+1]? else 0
theorem list35 {l:List Value} {a b c:Value} {d:List Value} (hl:l.length=35) (h0:(l.drop 0).take 3=[a,b,c]) (hd:(l.drop 3).take 32=d):l=a::b::c::d:=by
 have h1:l=l.take 3++l.drop 3:=(List.take_append_drop 3 l).symm
 have h2:(l.drop 3).take 32=l.drop 3:=List.take_of_length_le (by rw [List.length_drop,hl]; omega)
 rw [h1, ← h2,hd,show l.take 3=[a,b,c] from h0]; rfl
theorem plan24_open {H:Type} {enc:TypeId×Value→H} {W:World} {base:Nat} {held:Bool} {fuel:Nat} {cs:Array Value} {x:DataW H×List MemPlace} (hs:cs.size=35)
  (h:DataW.trod enc Tryz.prog W base (fun _=>true) held fuel 58 cs.toList=some x) : ∃ b rv vals A B Z,Value.agg cs=planT b rv vals A B∧(0≤b∧b≤255)∧RowsA W rv Z ∧ ∀ i t,0≤B i t∧B i t≤255:=by
 obtain ⟨xs,n,_,_,_,hxl,hx⟩:=DataW.trod_struct Tryz.underlying58 h
 have hx3:xs.length=2:=hxl
 have h0:=hx 0 _ rfl
 have h1:=hx 1 _ rfl
 rw [List.getElem?_eq_getElem (by omega)] at h0 h1
 have h0':DataW.trod enc Tryz.prog W base (fun _=>true) held n 24 ((cs.toList.drop 0).take 3)=some xs[0]:=h0
 have h1':DataW.trod enc Tryz.prog W base (fun _=>true) held n 56 ((cs.toList.drop 3).take 32)=some xs[1]:=h1
 have hl:cs.toList.length=35:=by simpa using hs
 obtain ⟨b,rv,vals,Z,hp,hb,hZ⟩:=plan18_open (cs:=((cs.toList.drop 0).take 3).toArray) (by rw [List.size_toArray,List.length_take,List.length_drop,hl]; rfl) h0'
 have hg:=gens_cells h1'
 have hp':(cs.toList.drop 0).take 3=[.int .u8 b,rv,.bool vals]:=congrArg Array.toList hp
 obtain ⟨d,hd⟩ : ∃ d,d=(cs.toList.drop 3).take 32:=⟨_,rfl⟩
 rw [← hd] at hg
 have hdl:d.length=32:=by rw [hd,List.length_take,List.length_drop,hl]; rfl
 have hA : ∀ i,i<4 → ∀ j,j<4→d[i*8+2*j]? = some (.int .i8 (plA d i j))∧d[i*8+2*j+1]? = some (.int .u8 (plB d i j))∧0≤plB d i j∧plB d i j≤255:=fun i hi j hj=>by
  obtain ⟨a,b,ha,hb,hr⟩:=hg i hi j hj
  have e1:plA d i j=a:=by unfold plA; rw [if_pos ⟨hi,hj⟩,ha]; rfl
  have e2:plB d i j=b:=by unfold plB; rw [if_pos ⟨hi,hj⟩,hb]; rfl
  rw [e1,e2]; exact ⟨ha,hb,hr⟩
 refine ⟨b,rv,vals,plA d,plB d,Z,?_,hb,hZ,fun i t => ?_⟩
 ·have hD:d=[.int .i8 (plA d 0 0),.int .u8 (plB d 0 0),.int .i8 (plA d 0 1),.int .u8 (plB d 0 1),.int .i8 (plA d 0 2),.int .u8 (plB d 0 2),.int .i8 (plA d 0 3),.int .u8 (plB d 0 3),.int .i8 (plA d 1 0),.int .u8 (plB d 1 0),.int .i8 (plA d 1 1),.int .u8 (plB d 1 1),.int .i8 (plA d 1 2),.int .u8 (plB d 1 2),.int .i8 (plA d 1 3),.int .u8 (plB d 1 3),.int .i8 (plA d 2 0),.int .u8 (plB d 2 0),.int .i8 (plA d 2 1),.int .u8 (plB d 2 1),.int .i8 (plA d 2 2),.int .u8 (plB d 2 2),.int .i8 (plA d 2 3),.int .u8 (plB d 2 3),.int .i8 (plA d 3 0),.int .u8 (plB d 3 0),.int .i8 (plA d 3 1),.int .u8 (plB d 3 1),.int .i8 (plA d 3 2),.int .u8 (plB d 3 2),.int .i8 (plA d 3 3),.int .u8 (plB d 3 3)]:=by
   refine List.ext_getElem? fun n => ?_
   match n with
   | 0=>exact (hA 0 (by omega) 0 (by omega)).1
   | 1=>exact (hA 0 (by omega) 0 (by omega)).2.1
   | 2=>exact (hA 0 (by omega) 1 (by omega)).1
   | 3=>exact (hA 0 (by omega) 1 (by omega)).2.1
   | 4=>exact (hA 0 (by omega) 2 (by omega)).1
   | 5=>exact (hA 0 (by omega) 2 (by omega)).2.1
   | 6=>exact (hA 0 (by omega) 3 (by omega)).1
   | 7=>exact (hA 0 (by omega) 3 (by omega)).2.1
   | 8=>exact (hA 1 (by omega) 0 (by omega)).1
   | 9=>exact (hA 1 (by omega) 0 (by omega)).2.1
   | 10=>exact (hA 1 (by omega) 1 (by omega)).1
   | 11=>exact (hA 1 (by omega) 1 (by omega)).2.1
   | 12=>exact (hA 1 (by omega) 2 (by omega)).1
   | 13=>exact (hA 1 (by omega) 2 (by omega)).2.1
   | 14=>exact (hA 1 (by omega) 3 (by omega)).1
   | 15=>exact (hA 1 (by omega) 3 (by omega)).2.1
   | 16=>exact (hA 2 (by omega) 0 (by omega)).1
   | 17=>exact (hA 2 (by omega) 0 (by omega)).2.1
   | 18=>exact (hA 2 (by omega) 1 (by omega)).1
   | 19=>exact (hA 2 (by omega) 1 (by omega)).2.1
   | 20=>exact (hA 2 (by omega) 2 (by omega)).1
   | 21=>exact (hA 2 (by omega) 2 (by omega)).2.1
   | 22=>exact (hA 2 (by omega) 3 (by omega)).1
   | 23=>exact (hA 2 (by omega) 3 (by omega)).2.1
   | 24=>exact (hA 3 (by omega) 0 (by omega)).1
   | 25=>exact (hA 3 (by omega) 0 (by omega)).2.1
   | 26=>exact (hA 3 (by omega) 1 (by omega)).1
   | 27=>exact (hA 3 (by omega) 1 (by omega)).2.1
   | 28=>exact (hA 3 (by omega) 2 (by omega)).1
   | 29=>exact (hA 3 (by omega) 2 (by omega)).2.1
   | 30=>exact (hA 3 (by omega) 3 (by omega)).1
   | 31=>exact (hA 3 (by omega) 3 (by omega)).2.1
   | n+32=>rw [List.getElem?_eq_none (by omega),List.getElem?_eq_none (by simp)]
  have hc:=list35 hl hp' hd.symm
  rw [hD] at hc
  show Value.agg cs=_
  rw [show cs=cs.toList.toArray from Array.toArray_toList.symm,hc]
 ·by_cases hit:i<4∧t<4
  ·exact (hA i hit.1 t hit.2).2.2
  ·unfold plB; rw [if_neg hit]; omega
set_option maxHeartbeats 2000000 in
theorem tuningPrimes_lifted (os:Os) (started:os.Started) (H:Type) (enc:TypeId×Value→H) :
  ReturnsInHanded {} Tryz.checked os 7 .any (fun w args=>(Rows.tuningPrimesSpec.pre enc Tryz.prog Tryz.f7 [] false w args∧laidMetH Tryz.prog fr_list w)∧sizedMet enc Tryz.prog Tryz.f7 (OpenSpec.ofChange Rows.tuningPrimesSpec) false w args)
   (Rows.tuningPrimesSpec.post enc Tryz.prog Tryz.f7 false true false false):=by
 refine returnsInHanded_of_change_and (C:=Tryz.checked) (X:=fun w _=>laidMetH Tryz.prog fr_list w) (fun _ _ _ hh h=>h.of_heap hh) fr_own started (by kernel_rfl) Tryz.func7
  (ChangeSpec.witness_shaped (enc:=enc) (C:=Tryz.checked) (os:=os) (X:=fun w _=>laidMetH Tryz.prog fr_list w) false (World.doorLaid Tryz.prog 400 os) #[.agg #[.int .u8 0,.slice none 0 0,.bool false,.int .i8 0,.int .u8 0,.int .i8 0,.int .u8 0,.int .i8 0,.int .u8 0,.int .i8 0,.int .u8 0,.int .i8 0,.int .u8 0,.int .i8 0,.int .u8 0,.int .i8 0,.int .u8 0,.int .i8 0,.int .u8 0,.int .i8 0,.int .u8 0,.int .i8 0,.int .u8 0,.int .i8 0,.int .u8 0,.int .i8 0,.int .u8 0,.int .i8 0,.int .u8 0,.int .i8 0,.int .u8 0,.int .i8 0,.int .u8 0,.int .i8 0,.int .u8 0]] 8 rfl (World.shaped_of_RefB (by kernel_rfl) (by kernel_rfl)) (by kernel_rfl) (by kernel_rfl) (by kernel_rfl) (door_met os _)) ?_
 intro W base args ds gs before hval0 hW _ _ hL _
 have hval : ∀ (j:Nat) t v,Tryz.f7.params[j]? = some t→args[j]? = some v→Value.okWide Tryz.prog W .any base t v:=hval0
 have hW':=hW
 obtain ⟨p,q,hA0,hV,rfl,hfz,hnd⟩:=hW
 have hA:DataW.TrodAll enc Tryz.prog W 0 (fun _=>true) true Tryz.f7.params.toList args.toList ds p:=hA0
 rw [Tryz.params7] at hA hval
 obtain ⟨v0,d0,rfl,rfl,h0⟩:=trodAll_one hA
 have hp0:p=p:=rfl
 obtain ⟨rfl,rfl⟩:=trodVars_none hV
 obtain ⟨cs0,rfl,hs0⟩:=okWide_struct Tryz.underlying58 (hval 0 58 v0 rfl rfl)
 rw [fr_cP24] at hs0
 have h0k:=h0
 obtain ⟨fuel0,hf0⟩:=h0
 obtain ⟨B0,rv0,vl0,pA0,pB0,Z0,hPv0,hB0,hZ0,hq0⟩:=plan24_open hs0 hf0
 rw [hPv0] at h0k hW' ⊢
 clear hA0 hval0 hf0
 simp only [List.append_nil] at hW'
 have hlt : ∀ z∈p,z.block<W.heap.size:=fun z hz=>by simpa using hW'.lt z hz
 refine (tpr_walk hB0 hZ0 hq0 (laid_of hL)).mono ?_
 rintro e W' ⟨rfl,hE⟩
 have e1:Rows.tuningPrimesSpec.fn H ([d0]++[]) = { results:=[.lit (.bool true)],args:=[d0] }:=rfl
 refine ⟨_,rfl,_,_,_,[],p,[],hW',?_,?_,?_,hE.frame _,fun h=>by cases h⟩
 ·rw [e1]; exact trodAll_mk1 (shut_bool Tryz.underlying4 true)
 ·rw [e1]; exact trodAll_mk1 (Below.trod fr_laidOut (by kernel_rfl) (of_decide_eq_true (by kernel_rfl)) h0k hE fun x hx=>hlt x (by simp [hx]))
 ·rw [e1]; rfl
set_option maxHeartbeats 20000000 in
theorem tuningPrimes_holds:Rows.TuningPrimesSaid :=
 OpenClaim.holds_of_wide 7 Tryz.f7 rfl rfl rfl rfl rfl rfl rfl ⟨rfl,rfl,rfl,rfl,rfl⟩ rfl rfl rfl rfl rfl (by as_aux_lemma=>kernel_rfl) Tryz.func7 (by
   unfold joinedFacts
   simp only [Bool.and_eq_true]
   repeat' apply And.intro
   all_goals (as_aux_lemma=>kernel_rfl))
  (of_decide_eq_true (by kernel_rfl)) (by unfold Func.isWrapper; first | (rw [if_pos (by decide +kernel)]; kernel_rfl) | (rw [if_neg (by decide +kernel)]; exact ⟨rfl,rfl⟩))
  (fun os started H enc _=>tuningPrimes_lifted os started H enc)
set_option maxHeartbeats 20000000 in
theorem tuningPrimes_card:Rows.TuningPrimesCardSaid :=
 Claim7.holds_tied_plain_at .later [] [.data,.data,.data,.sentinel,.sentinel] true Rows.tuningPrimesCard.stood.harness true
  tuningPrimes_holds (fun _ h=>by cases h) (by as_aux_lemma=>kernel_rfl) (fun _ h=>by cases h) tuningPrimes_row_tie rfl ⟨rfl,rfl⟩ (by as_aux_lemma=>kernel_rfl) rfl
  (fun f fn hf hfn=>by
   obtain rfl : f = 7 := Option.some.inj ((show Tryz.prog.funcNamed "schisma/schismalaw24.TuningPrimes" = some 7 by as_aux_lemma => kernel_rfl).symm.trans hf) |>.symm
   obtain rfl:fn=Tryz.f7:=(Option.some.inj (Tryz.func7.symm.trans hfn)).symm
   exact ⟨by as_aux_lemma=>kernel_rfl,fun j t ht=>by
    rw [Tryz.params7] at ht
    have hm:t∈[58]:=by simpa using Array.mem_of_getElem? ht
    have hall:([58].all fun u => !Tryz.prog.wantsStandIn u)=true:=by as_aux_lemma=>kernel_rfl
    exact (show Tryz.prog.wantsStandIn t=false by simpa using List.all_eq_true.1 hall t hm)⟩)
  (by as_aux_lemma=>kernel_rfl)
#print axioms tuningPrimes_card
end Go.Proofs.YtjnpakablgommaaGreatDoor
