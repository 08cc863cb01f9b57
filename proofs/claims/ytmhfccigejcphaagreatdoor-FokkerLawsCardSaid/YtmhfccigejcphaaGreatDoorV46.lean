/- Part 46 of the proof of the claim: contracts of the functions that it reaches, and plain laws; no condition. -/
import Derived.Test.YtmhfccigejcphaaGreatDoorV45
import Derived.Test.YtmhfccigejcphaaGreatDoorCards
import Derived.Test.YtmhfccigejcphaaGreatDoorTie
import Derived.SevenTiedAt
set_option maxRecDepth 100000
namespace Go.Proofs.YtmhfccigejcphaaGreatDoor
open Go.ChangeShapes Go.WideShapes Go.ChangeAt Go.WideMaps Go.WideElems Go.RowKit Go.Deep
theorem fr_ca3:Tryz.prog.cellsOf 52=3:=by kernel_rfl
theorem arr3_open {H:Type} {enc:TypeId×Value→H} {W:World} {base:Nat} {sp:Nat→Bool} {held:Bool} {fuel:Nat} {cs:Array Value} {x:DataW H×List MemPlace} (hs:cs.size=3)
  (h:DataW.trod enc Tryz.prog W base sp held fuel 52 cs.toList=some x) : ∃ z0 z1 z2:Int,cs = #[.int .i8 z0,.int .i8 z1,.int .i8 z2]∧(-128≤z0∧z0≤127)∧(-128≤z1∧z1≤127)∧(-128≤z2∧z2≤127):=by
 have hE:=i8_cells Tryz.underlying52 h;obtain ⟨z0,k0,b0⟩:=hE 0 (by omega);obtain ⟨z1,k1,b1⟩:=hE 1 (by omega);obtain ⟨z2,k2,b2⟩:=hE 2 (by omega);refine ⟨z0,z1,z2,?_,b0,b1,b2⟩;obtain ⟨l⟩:=cs
 match l,hs with
 | [c0,c1,c2],_ =>
  simp at k0 k1 k2;subst k0 k1 k2;rfl
theorem fr_ca4:Tryz.prog.cellsOf 57=4:=by kernel_rfl
theorem arr4_open {H:Type} {enc:TypeId×Value→H} {W:World} {base:Nat} {sp:Nat→Bool} {held:Bool} {fuel:Nat} {cs:Array Value} {x:DataW H×List MemPlace} (hs:cs.size=4)
  (h:DataW.trod enc Tryz.prog W base sp held fuel 57 cs.toList=some x) : ∃ z0 z1 z2 z3:Int,cs = #[.int .i8 z0,.int .i8 z1,.int .i8 z2,.int .i8 z3]∧(-128≤z0∧z0≤127)∧(-128≤z1∧z1≤127)∧(-128≤z2∧z2≤127)∧(-128≤z3∧z3≤127):=by
 have hE:=i8_cells Tryz.underlying57 h;obtain ⟨z0,k0,b0⟩:=hE 0 (by omega);obtain ⟨z1,k1,b1⟩:=hE 1 (by omega);obtain ⟨z2,k2,b2⟩:=hE 2 (by omega);obtain ⟨z3,k3,b3⟩:=hE 3 (by omega);refine ⟨z0,z1,z2,z3,?_,b0,b1,b2,b3⟩;obtain ⟨l⟩:=cs
 match l,hs with
 | [c0,c1,c2,c3],_ =>
  simp at k0 k1 k2 k3;subst k0 k1 k2 k3;rfl
set_option maxHeartbeats 2000000 in
theorem fokkerLaws_lifted (os:Os) (started:os.Started) (H:Type) (enc:TypeId×Value→H) :
  ReturnsInHanded {} Tryz.checked os 4 .any (fun w args=>(Rows.fokkerLawsSpec.pre enc Tryz.prog Tryz.f4 [] false w args∧laidMetH Tryz.prog fr_list w)∧sizedMet enc Tryz.prog Tryz.f4 (OpenSpec.ofChange Rows.fokkerLawsSpec) false w args)
   (Rows.fokkerLawsSpec.post enc Tryz.prog Tryz.f4 false true false false):=by
 refine returnsInHanded_of_change_and (C:=Tryz.checked) (X:=fun w _=>laidMetH Tryz.prog fr_list w) (fun _ _ _ hh h=>h.of_heap hh) fr_own started (by kernel_rfl) Tryz.func4
  (ChangeSpec.witness_shaped (enc:=enc) (C:=Tryz.checked) (os:=os) (X:=fun w _=>laidMetH Tryz.prog fr_list w) false (World.doorLaid Tryz.prog 400 os) #[.agg #[.int .u8 0,.int .i8 0,.int .i8 0,.int .i8 0,.int .i8 0,.int .i8 0,.int .i8 0,.int .i8 0,.int .i8 0],.agg #[.int .i8 0,.int .i8 0,.int .i8 0,.int .i8 0],.agg #[.int .i8 0,.int .i8 0,.int .i8 0]] 8 rfl (World.shaped_of_RefB (by kernel_rfl) (by kernel_rfl)) (by kernel_rfl) (by kernel_rfl) (by kernel_rfl) (door_met os _)) ?_
 intro W base args ds gs before hval0 hW _ _ hL _;have hval : ∀ (j:Nat) t v,Tryz.f4.params[j]? = some t→args[j]? = some v→Value.okWide Tryz.prog W .any base t v:=hval0;have hW':=hW;obtain ⟨p,q,hA0,hV,rfl,hfz,hnd⟩:=hW;have hA:DataW.TrodAll enc Tryz.prog W 0 (fun _=>true) true Tryz.f4.params.toList args.toList ds p:=hA0;rw [Tryz.params4] at hA hval;obtain ⟨v0,v1,v2,d0,d1,d2,p0,p1,p2,rfl,rfl,rfl,h0,h1,h2⟩:=trodAll_three hA;obtain ⟨rfl,rfl⟩:=trodVars_none hV;obtain ⟨cs0,rfl,hs0⟩:=okWide_struct Tryz.underlying56 (hval 0 56 v0 rfl rfl);rw [fr_cP36] at hs0;obtain ⟨cs1,rfl,hs1⟩:=okWide_arr Tryz.underlying57 (hval 1 57 v1 rfl rfl);rw [fr_ca4] at hs1;obtain ⟨cs2,rfl,hs2⟩:=okWide_arr Tryz.underlying52 (hval 2 52 v2 rfl rfl);rw [fr_ca3] at hs2;have h0k:=h0;have h1k:=h1;have h2k:=h2;obtain ⟨fuel0,hf0⟩:=h0;obtain ⟨pp0,pu0,po0,hPv0,hp0,hu0,ho0⟩:=plan36_open hs0 hf0;rw [hPv0] at h0k hW' ⊢;obtain ⟨fuel1,hf1⟩:=h1;obtain ⟨z1_0,z1_1,z1_2,z1_3,rfl,b1_0,b1_1,b1_2,b1_3⟩:=arr4_open hs1 hf1;obtain ⟨fuel2,hf2⟩:=h2;obtain ⟨z2_0,z2_1,z2_2,rfl,b2_0,b2_1,b2_2⟩:=arr3_open hs2 hf2;clear hA0 hval0 hf0 hf1 hf2;simp only [List.append_nil] at hW';have hlt : ∀ z∈p0++p1++p2,z.block<W.heap.size:=fun z hz=>by simpa using hW'.lt z hz
 refine (fklw_walk (l:=fn4 z1_0 z1_1 z1_2 z1_3) (q:=fn4 z2_0 z2_1 z2_2 z2_2) hp0 hu0 ho0 (fn4_b b1_0 b1_1 b1_2 b1_3) (fn4_b b2_0 b2_1 b2_2 b2_2) (laid_of hL)).mono ?_;rintro e W' ⟨rfl,hE⟩;have e1:Rows.fokkerLawsSpec.fn H ([d0,d1,d2]++[]) = { results:=[.lit (.bool true)],args:=[d0,d1,d2] }:=rfl;refine ⟨_,rfl,_,_,_,[],p0++p1++p2,[],hW',?_,?_,?_,hE.frame _,fun h=>by cases h⟩
 ·rw [e1]; exact trodAll_mk1 (shut_bool Tryz.underlying4 true)
 ·rw [e1,List.append_assoc]; exact trodAll_mk3 (Below.trod fr_laidOut (by kernel_rfl) (of_decide_eq_true (by kernel_rfl)) h0k hE fun x hx=>hlt x (by simp [hx])) (Below.trod fr_laidOut (by kernel_rfl) (of_decide_eq_true (by kernel_rfl)) h1k hE fun x hx=>hlt x (by simp [hx])) (Below.trod fr_laidOut (by kernel_rfl) (of_decide_eq_true (by kernel_rfl)) h2k hE fun x hx=>hlt x (by simp [hx]))
 ·rw [e1]; rfl
set_option maxHeartbeats 20000000 in
theorem fokkerLaws_holds:Rows.FokkerLawsSaid :=
 OpenClaim.holds_of_wide 4 Tryz.f4 rfl rfl rfl rfl rfl rfl rfl ⟨rfl,rfl,rfl,rfl,rfl⟩ rfl rfl rfl rfl rfl (by as_aux_lemma=>kernel_rfl) Tryz.func4 (by
   unfold joinedFacts;simp only [Bool.and_eq_true]
   repeat' apply And.intro
   all_goals (as_aux_lemma=>kernel_rfl))
  (of_decide_eq_true (by kernel_rfl)) (by unfold Func.isWrapper; first | (rw [if_pos (by decide +kernel)]; kernel_rfl) | (rw [if_neg (by decide +kernel)]; exact ⟨rfl,rfl⟩))
  (fun os started H enc _=>fokkerLaws_lifted os started H enc)
set_option maxHeartbeats 20000000 in
theorem fokkerLaws_card:Rows.FokkerLawsCardSaid :=
 Claim7.holds_tied_plain_at .later [] [.data,.data,.data,.sentinel,.sentinel] true Rows.fokkerLawsCard.stood.harness true
  fokkerLaws_holds (fun _ h=>by cases h) (by as_aux_lemma=>kernel_rfl) (fun _ h=>by cases h) fokkerLaws_row_tie rfl ⟨rfl,rfl⟩ (by as_aux_lemma=>kernel_rfl) rfl
  (fun f fn hf hfn=>by
   obtain rfl : f = 4 := Option.some.inj ((show Tryz.prog.funcNamed "schisma/schismalaw36.FokkerLaws" = some 4 by as_aux_lemma => kernel_rfl).symm.trans hf) |>.symm
   obtain rfl:fn=Tryz.f4:=(Option.some.inj (Tryz.func4.symm.trans hfn)).symm
   exact ⟨by as_aux_lemma=>kernel_rfl,fun j t ht=>by
    rw [Tryz.params4] at ht;have hm:t∈[56,57,52]:=by simpa using Array.mem_of_getElem? ht
    have hall:([56,57,52].all fun u => !Tryz.prog.wantsStandIn u)=true:=by as_aux_lemma=>kernel_rfl
    exact (show Tryz.prog.wantsStandIn t=false by simpa using List.all_eq_true.1 hall t hm)⟩)
  (by as_aux_lemma=>kernel_rfl)
#print axioms fokkerLaws_card
end Go.Proofs.YtmhfccigejcphaaGreatDoor
