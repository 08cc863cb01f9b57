/- Part 13, beside the shared parts, of the proof of the claim: contracts and plain laws; no condition. -/
import Derived.Test.YtjnpakablgommaaGreatDoorX12
import Derived.Test.YtjnpakablgommaaGreatDoorRows
import Derived.ProofKit
import Derived.LaidMore
import Derived.OpenShut
import Derived.Stop.Joined
import Derived.Stop.LaidErr
import Derived.Lib.LaidTab
import Derived.Deep.Matrix
import Derived.Test.YtjnpakablgommaaGreatDoorCards
import Derived.Test.YtjnpakablgommaaGreatDoorTie
import Derived.SevenTiedAt
set_option maxRecDepth 100000
namespace Go.Proofs.YtjnpakablgommaaGreatDoor
open Go.ChangeShapes Go.WideShapes Go.ChangeAt Go.WideMaps Go.WideElems Go.RowKit Go.Deep
theorem fr_own:ownKnob Tryz.prog.godebug=none:=by kernel_rfl
theorem fr_laidOut:laidOutB Tryz.prog=true:=by kernel_rfl
theorem fr_pow : Tryz.prog.globalNamed "internal/strconv.uint64pow10" = some 3 := by kernel_rfl
theorem fr_powT:(Tryz.prog.globals[3]?).map (·.type)=some 383:=by kernel_rfl
theorem fr_rng : Tryz.prog.globalNamed "strconv.ErrRange" = some 1 := by kernel_rfl
theorem fr_rngT:(Tryz.prog.globals[1]?).map (·.type)=some 211:=by kernel_rfl
theorem fr_c20:Tryz.prog.cellsOf 383=20:=by kernel_rfl
theorem fr_cu:Tryz.prog.cellsOf 247=1:=by kernel_rfl
theorem fr_cE:Tryz.prog.cellsOf 379=1:=by kernel_rfl
theorem fr_cS:Tryz.prog.cellsOf 9=1:=by kernel_rfl
theorem fr_star : "*" ++ "errors.errorString" = "*errors.errorString" := by decide
theorem fr_ptr (u : TypeId) (h : Tryz.prog.typeName? 3 u = some "*errors.errorString") : u = 377 :=
 typeName_ptr_named (nm := "errors.errorString") (by rw [fr_star]; kernel_rfl) (by kernel_rfl) (by decide) u (by rw [fr_star]; exact h)
abbrev fr_list : List (String × DataW Unit) := [("math/bits.deBruijn32tab", Rows.laid_math_bits_deBruijn32tab), ("math/bits.deBruijn64tab", Rows.laid_math_bits_deBruijn64tab), ("internal/strconv.uint64pow10", Rows.laid_internal_strconv_uint64pow10), ("strconv.ErrRange", Rows.laid_strconv_ErrRange), ("strconv.ErrSyntax", Rows.laid_strconv_ErrSyntax)]
theorem fr_tab:(Rows.laid_internal_strconv_uint64pow10:DataW Unit)=Lib.tabData .u64 Lib.pow10Tab:=by kernel_rfl
theorem laid_of {W:World} (h:laidMetH Tryz.prog fr_list W):Laid W:=by
 rw [MakeChecks.laidMetH_plain _ _ _ (by kernel_rfl)] at h
 have h3:=h.tail.tail
 rw [fr_tab] at h3
 refine ⟨Lib.tabIs_of_head fr_pow fr_powT Tryz.underlying383 Tryz.underlying247 fr_cu fr_c20 h3,?_⟩
 obtain ⟨a,s,hv,_⟩:=laid_sentinel h3.tail fr_rng fr_rngT Tryz.underlying211 fr_ptr Tryz.underlying377 Tryz.underlying379 rfl rfl Tryz.underlying9 fr_cE fr_cS
 exact ⟨_,_,hv⟩
theorem door_met (os:Os) (args:Array Value):laidMetH Tryz.prog fr_list ((World.doorLaid Tryz.prog 400 os).forCall (fun _ _=>0) ⟨#[],args,[]⟩).memory :=
 laidMetH_of_parts3 (fuel:=8) (laidMet_of_run' 8 (by kernel_rfl) (by kernel_rfl)) (by kernel_rfl) (by kernel_rfl)
theorem fr_c8:Tryz.prog.cellsOf 51=1:=by kernel_rfl
theorem take_one {l:List Value} {k:Nat} {x:Value} (h:(l.drop k).take 1=[x]):l[k]? = some x:=by
 have:=congrArg (·[0]?) h
 simpa [List.getElem?_take] using this
theorem i8_bounds {n:Int} (h:(Lit.int .i8 n).wf=true) : -128≤n∧n≤127:=by
 simp only [Lit.wf,Bool.and_eq_true,decide_eq_true_eq] at h
 have e1:IntKind.i8.min = -128:=by rfl
 have e2:IntKind.i8.max=127:=by rfl
 omega
theorem u8_bounds {n:Int} (h:(Lit.int .u8 n).wf=true):0≤n∧n≤255:=by
 simp only [Lit.wf,Bool.and_eq_true,decide_eq_true_eq] at h
 have e1:IntKind.u8.min=0:=by rfl
 have e2:IntKind.u8.max=255:=by rfl
 omega
theorem i8_cells {H:Type} {enc:TypeId×Value→H} {W:World} {base:Nat} {sp:Nat→Bool} {held:Bool} {fuel n:Nat} {t:TypeId} {l:List Value} {x:DataW H×List MemPlace} (ht:Tryz.prog.underlying t=some (.array n 51))
  (h:DataW.trod enc Tryz.prog W base sp held fuel t l=some x) : ∀ j,j<n → ∃ z:Int,l[j]? = some (.int .i8 z) ∧ -128≤z∧z≤127:=by
 obtain ⟨xs,m,_,_,_,hxl,hx⟩:=DataW.trod_array ht h
 intro j hj
 have h1:=hx j hj
 rw [fr_c8,Nat.mul_one,List.getElem?_eq_getElem (by omega)] at h1
 obtain ⟨z,hz,_,hw⟩:=DataW.trod_int Tryz.underlying51 h1
 exact ⟨z,take_one hz,i8_bounds hw⟩
theorem fr_cP18:Tryz.prog.cellsOf 24=3:=by kernel_rfl
theorem fr_cA4:Tryz.prog.cellsOf 120=4:=by kernel_rfl
theorem cells_four {W:World} {base:Nat} {a:Addr} {l:List Value} (h:W.cells? base a 4=some l) : ∀ j,j<4→W.cell? (a.add j)=l[j]? := by
 unfold World.cells? at h
 split at h
 case isFalse=>cases h
 intro j hj
 have hj2:=Go.mapM_some_get h j
 have hl:l.length=4:=by
  have:=Go.mapM_some_length h
  simpa using this
 have h0:=hj2 j (by simp [hj])
 simpa using h0
theorem rowsA_open {H:Type} {enc:TypeId×Value→H} {W:World} {base:Nat} {held:Bool} {fuel:Nat} {l:List Value} {x:DataW H×List MemPlace}
  (h:DataW.trod enc Tryz.prog W base (fun _=>true) held fuel 22 l=some x) : ∃ v Z,l=[v]∧RowsA W v Z:=by
 rcases open_slice Tryz.underlying22 h with ⟨hcs,_⟩ | ⟨a,len,cap,m,n,D,Pl,hcs,_,hl,hmx,hm,_,hel⟩
 ·exact ⟨.slice none 0 0,[],hcs,none,0,0,0,rfl,Nat.le_refl _,fun h=>by simp at h,fun i h=>by simp at h,fun i h=>by simp at h⟩
 ·rw [if_pos rfl] at hm
  subst hm
  rw [fr_cA4] at hel
  have hex : ∀ i,i<len → ∃ zs:List Int,(zs.length=4 ∧ ∀ z∈zs,-128≤z∧z≤127) ∧ ∀ j,j<4→W.cell? (a.add (i*4+j))=some (.int .i8 (zs.getD j 0)):=by
   intro i hi
   obtain ⟨cs',h1,h2⟩:=hel i (by omega)
   have h3:=i8_cells Tryz.underlying120 h2
   have h4:=cells_four h1
   obtain ⟨z0,k0,b0⟩:=h3 0 (by omega)
   obtain ⟨z1,k1,b1⟩:=h3 1 (by omega)
   obtain ⟨z2,k2,b2⟩:=h3 2 (by omega)
   obtain ⟨z3,k3,b3⟩:=h3 3 (by omega)
   refine ⟨[z0,z1,z2,z3],⟨rfl,fun z hz => ?_⟩,fun j hj => ?_⟩
   ·simp only [List.mem_cons,List.not_mem_nil,or_false] at hz
    rcases hz with rfl | rfl | rfl | rfl <;> assumption
   ·rw [← add_add,h4 j hj]
    rcases (show j=0∨j=1∨j=2∨j=3 by omega) with rfl | rfl | rfl | rfl
    ·exact k0
    ·exact k1
    ·exact k2
    ·exact k3
  obtain ⟨f,hf⟩:=choose_lt hex
  have hsp:0<len→a.spot=none:=fun h=>by simpa [Addr.add] using World.cell?_spot ((hf 0 h).2 0 (by omega))
  obtain ⟨b,o,sp⟩:=a
  refine ⟨_,(List.range len).map f,hcs,some ⟨b,o,sp⟩,b,o,m,by simp,by simpa using hl,fun h => ?_,fun i hi => ?_,fun i hi j hj => ?_⟩
  ·have:=hsp (by simpa using h)
   simp at this
   rw [this]
  ·have hi':i<len:=by simpa using hi
   simpa using (hf i hi').1
  ·have hi':i<len:=by simpa using hi
   have:=hsp (by omega)
   simp at this
   subst this
   have k1:=(hf i hi').2 j hj
   rw [add_plain] at k1
   rw [show o+4*i+j=o+(i*4+j) by omega,k1]
   simp
theorem list3t {l:List Value} {a b c:Value} (hl:l.length=3) (h0:(l.drop 0).take 1=[a]) (h1:(l.drop 1).take 1=[b]) (h2:(l.drop 2).take 1=[c]):l=[a,b,c]:=by
 match l,hl with
 | [p,q,r],_ =>
  simp at h0 h1 h2
  subst h0 h1 h2
  rfl
theorem plan18_open {H:Type} {enc:TypeId×Value→H} {W:World} {base:Nat} {held:Bool} {fuel:Nat} {cs:Array Value} {x:DataW H×List MemPlace} (hs:cs.size=3)
  (h:DataW.trod enc Tryz.prog W base (fun _=>true) held fuel 24 cs.toList=some x) : ∃ b rv vals Z,cs = #[.int .u8 b,rv,.bool vals]∧(0≤b∧b≤255)∧RowsA W rv Z:=by
 obtain ⟨xs,n,_,_,_,hxl,hx⟩:=DataW.trod_struct Tryz.underlying24 h
 have hx3:xs.length=3:=hxl
 have h0:=hx 0 _ rfl
 have h1:=hx 1 _ rfl
 have h2:=hx 2 _ rfl
 rw [List.getElem?_eq_getElem (by omega)] at h0 h1 h2
 have h0':DataW.trod enc Tryz.prog W base (fun _=>true) held n 5 ((cs.toList.drop 0).take 1)=some xs[0]:=h0
 have h1':DataW.trod enc Tryz.prog W base (fun _=>true) held n 22 ((cs.toList.drop 1).take 1)=some xs[1]:=h1
 have h2':DataW.trod enc Tryz.prog W base (fun _=>true) held n 4 ((cs.toList.drop 2).take 1)=some xs[2]:=h2
 obtain ⟨b,hb,_,wb⟩:=DataW.trod_int Tryz.underlying5 h0'
 obtain ⟨v,Z,hv,hZ⟩:=rowsA_open h1'
 obtain ⟨vals,hvl,_⟩:=DataW.trod_bool Tryz.underlying4 h2'
 have hl:=list3t (by simpa using hs) hb hv hvl
 exact ⟨b,v,vals,Z,by rw [show cs=cs.toList.toArray from Array.toArray_toList.symm,hl],u8_bounds wb,hZ⟩
theorem fr_cPart:Tryz.prog.cellsOf 53=2:=by kernel_rfl
theorem fr_cParts:Tryz.prog.cellsOf 55=8:=by kernel_rfl
def zval (v:Option Value):Int:=match v with
 | some (.int _ z)=>z
 | _=>0
theorem part_cells {H:Type} {enc:TypeId×Value→H} {W:World} {base:Nat} {sp:Nat→Bool} {held:Bool} {fuel:Nat} {l:List Value} {x:DataW H×List MemPlace}
  (h:DataW.trod enc Tryz.prog W base sp held fuel 53 l=some x) : ∃ a b:Int,l[0]? = some (.int .i8 a)∧l[1]? = some (.int .u8 b)∧(0≤b∧b≤255):=by
 obtain ⟨xs,n,_,_,_,hxl,hx⟩:=DataW.trod_struct Tryz.underlying53 h
 have hx3:xs.length=2:=hxl
 have h0:=hx 0 _ rfl
 have h1:=hx 1 _ rfl
 rw [List.getElem?_eq_getElem (by omega)] at h0 h1
 have h0':DataW.trod enc Tryz.prog W base sp held n 51 ((l.drop 0).take 1)=some xs[0]:=h0
 have h1':DataW.trod enc Tryz.prog W base sp held n 5 ((l.drop 1).take 1)=some xs[1]:=h1
 obtain ⟨a,ha,_,_⟩:=DataW.trod_int Tryz.underlying51 h0'
 obtain ⟨b,hb,_,wb⟩:=DataW.trod_int Tryz.underlying5 h1'
 exact ⟨a,b,take_one ha,take_one hb,u8_bounds wb⟩
theorem parts_cells {H:Type} {enc:TypeId×Value→H} {W:World} {base:Nat} {sp:Nat→Bool} {held:Bool} {fuel:Nat} {l:List Value} {x:DataW H×List MemPlace}
  (h:DataW.trod enc Tryz.prog W base sp held fuel 55 l=some x) : ∀ j,j<4 → ∃ a b:Int,l[2*j]? = some (.int .i8 a)∧l[2*j+1]? = some (.int .u8 b)∧(0≤b∧b≤255):=by
 obtain ⟨xs,m,_,_,_,hxl,hx⟩:=DataW.trod_array Tryz.underlying55 h
 intro j hj
 have h1:=hx j hj
 rw [fr_cPart,List.getElem?_eq_getElem (by omega)] at h1
 obtain ⟨a,b,ha,hb,hr⟩:=part_cells h1
 rw [List.getElem?_take,if_pos (by omega),List.getElem?_drop] at ha hb
 exact ⟨a,b,by rw [Nat.mul_comm]; exact ha,by rw [Nat.mul_comm]; exact hb,hr⟩
theorem gens_cells {H:Type} {enc:TypeId×Value→H} {W:World} {base:Nat} {sp:Nat→Bool} {held:Bool} {fuel:Nat} {l:List Value} {x:DataW H×List MemPlace}
  (h:DataW.trod enc Tryz.prog W base sp held fuel 56 l=some x) : ∀ i,i<4 → ∀ j,j<4 → ∃ a b:Int,l[i*8+2*j]? = some (.int .i8 a)∧l[i*8+2*j+1]? = some (.int .u8 b)∧(0≤b∧b≤255):=by
 obtain ⟨xs,m,_,_,_,hxl,hx⟩:=DataW.trod_array Tryz.underlying56 h
 intro i hi j hj
 have h1:=hx i hi
 rw [fr_cParts,List.getElem?_eq_getElem (by omega)] at h1
 obtain ⟨a,b,ha,hb,hr⟩:=parts_cells h1 j hj
 rw [List.getElem?_take,if_pos (by omega),List.getElem?_drop] at ha hb
 exact ⟨a,b,ha,hb,hr⟩
def plA (l:List Value) (i t:Nat):Int:=if i<4∧t<4 then zval l[i*8+2*t]? else 0
def plB (l:List Value) (i t:Nat):Int:=if i<4∧t<4 then zval l[i*8+2*t+1]? else 0
theorem okWide_arr {P:Program} {w:World} {r:Reach} {base:Nat} {t e:TypeId} {n:Nat} {v:Value} (ht:P.underlying t=some (.array n e)) (h:Value.okWide P w r base t v) : ∃ cs,v = .agg cs∧cs.size=P.cellsOf t:=by
 simp only [Value.okWide,ht] at h
 obtain ⟨cs,h1,h2,_⟩:=h
 exact ⟨cs,h1,h2⟩
theorem fr_cParts4:Tryz.prog.cellsOf 56=32:=by kernel_rfl
theorem parts_open {H:Type} {enc:TypeId×Value→H} {W:World} {base:Nat} {sp:Nat→Bool} {held:Bool} {fuel:Nat} {cs:Array Value} {x:DataW H×List MemPlace} (hs:cs.size=32)
  (h:DataW.trod enc Tryz.prog W base sp held fuel 56 cs.toList=some x) : ∃ A B:Nat→Nat→Int,Value.agg cs = .agg #[.int .i8 (A 0 0),.int .u8 (B 0 0),.int .i8 (A 0 1),.int .u8 (B 0 1),.int .i8 (A 0 2),.int .u8 (B 0 2),.int .i8 (A 0 3),.int .u8 (B 0 3),.int .i8 (A 1 0),.int .u8 (B 1 0),.int .i8 (A 1 1),.int .u8 (B 1 1),.int .i8 (A 1 2),.int .u8 (B 1 2),.int .i8 (A 1 3),.int .u8 (B 1 3),.int .i8 (A 2 0),.int .u8 (B 2 0),.int .i8 (A 2 1),.int .u8 (B 2 1),.int .i8 (A 2 2),.int .u8 (B 2 2),.int .i8 (A 2 3),.int .u8 (B 2 3),.int .i8 (A 3 0),.int .u8 (B 3 0),.int .i8 (A 3 1),.int .u8 (B 3 1),.int .i8 (A 3 2),.int .u8 (B 3 2),.int .i8 (A 3 3),.int .u8 (B 3 3)] ∧ ∀ i t,0≤B i t∧B i t≤255:=by
 have hg:=gens_cells h
 obtain ⟨d,hd⟩ : ∃ d,d=cs.toList:=⟨_,rfl⟩
 rw [← hd] at hg
 have hdl:d.length=32:=by rw [hd]; simpa using hs
 have hA : ∀ i,i<4 → ∀ j,j<4→d[i*8+2*j]? = some (.int .i8 (plA d i j))∧d[i*8+2*j+1]? = some (.int .u8 (plB d i j))∧0≤plB d i j∧plB d i j≤255:=fun i hi j hj=>by
  obtain ⟨a,b,ha,hb,hr⟩:=hg i hi j hj
  have e1:plA d i j=a:=by unfold plA; rw [if_pos ⟨hi,hj⟩,ha]; rfl
  have e2:plB d i j=b:=by unfold plB; rw [if_pos ⟨hi,hj⟩,hb]; rfl
  rw [e1,e2]; exact ⟨ha,hb,hr⟩
 refine ⟨plA d,plB d,?_,fun i t => ?_⟩
 ·have hD:d=[.int .i8 (plA d 0 0),.int .u8 (plB d 0 0),.int .i8 (plA d 0 1),.int .u8 (plB d 0 1),.int .i8 (plA d 0 2),.int .u8 (plB d 0 2),.int .i8 (plA d 0 3),.int .u8 (plB d 0 3),.int .i8 (plA d 1 0),.int .u8 (plB d 1 0),.int .i8 (plA d 1 1),.int .u8 (plB d 1 1),.int .i8 (plA d 1 2),.int .u8 (plB d 1 2),.int .i8 (plA d 1 3),.int .u8 (plB d 1 3),.int .i8 (plA d 2 0),.int .u8 (plB d 2 0),.int .i8 (plA d 2 1),.int .u8 (plB d 2 1),.int .i8 (plA d 2 2),.int .u8 (plB d 2 2),.int .i8 (plA d 2 3),.int .u8 (plB d 2 3),.int .i8 (plA d 3 0),.int .u8 (plB d 3 0),.int .i8 (plA d 3 1),.int .u8 (plB d 3 1),.int .i8 (plA d 3 2),.int .u8 (plB d 3 2),.int .i8 (plA d 3 3),.int .u8 (plB d 3 3)]:=by
   refine List.ext_getElem? fun n => ?_
   match n with
   | 0=>exact (hA 0 (by omega) 0 (by omega)).1
   | 1=>exact (hA 0 (by omega) 0 (by omega)).2.1
   | 2=>exact (hA 0 (by omega) 1 (by omega)).1
   | 3=>exact (hA 0 (by omega) 1 (by omega)).2.1
   | 4=>exact (hA 0 (by omega) 2 (by omega)).1
   | 5=>exact (hA 0 (by omega) 2 (by omega)).2.1
   | 6=>exact (hA 0 (by omega) 3 (by omega)).1
   | 7=>exact (hA 0 (by omega) 3 (by omega)).2.1
   | 8=>exact (hA 1 (by omega) 0 (by omega)).1
   | 9=>exact (hA 1 (by omega) 0 (by omega)).2.1
   | 10=>exact (hA 1 (by omega) 1 (by omega)).1
   | 11=>exact (hA 1 (by omega) 1 (by omega)).2.1
   | 12=>exact (hA 1 (by omega) 2 (by omega)).1
   | 13=>exact (hA 1 (by omega) 2 (by omega)).2.1
   | 14=>exact (hA 1 (by omega) 3 (by omega)).1
   | 15=>exact (hA 1 (by omega) 3 (by omega)).2.1
   | 16=>exact (hA 2 (by omega) 0 (by omega)).1
   | 17=>exact (hA 2 (by omega) 0 (by omega)).2.1
   | 18=>exact (hA 2 (by omega) 1 (by omega)).1
   | 19=>exact (hA 2 (by omega) 1 (by omega)).2.1
   | 20=>exact (hA 2 (by omega) 2 (by omega)).1
   | 21=>exact (hA 2 (by omega) 2 (by omega)).2.1
   | 22=>exact (hA 2 (by omega) 3 (by omega)).1
   | 23=>exact (hA 2 (by omega) 3 (by omega)).2.1
   | 24=>exact (hA 3 (by omega) 0 (by omega)).1
   | 25=>exact (hA 3 (by omega) 0 (by omega)).2.1
   | 26=>exact (hA 3 (by omega) 1 (by omega)).1
   | 27=>exact (hA 3 (by omega) 1 (by omega)).2.1
   | 28=>exact (hA 3 (by omega) 2 (by omega)).1
   | 29=>exact (hA 3 (by omega) 2 (by omega)).2.1
   | 30=>exact (hA 3 (by omega) 3 (by omega)).1
   | 31=>exact (hA 3 (by omega) 3 (by omega)).2.1
   | n+32=>rw [List.getElem?_eq_none (by omega),List.getElem?_eq_none (by simp)]
  show Value.agg cs=_
  rw [show cs=cs.toList.toArray from Array.toArray_toList.symm, ← hd]
  generalize plA d=a at *
  generalize plB d=b at *
  rw [hD]
 ·by_cases hit:i<4∧t<4
  ·exact (hA i hit.1 t hit.2).2.2
  ·unfold plB; rw [if_neg hit]; omega
set_option maxHeartbeats 2000000 in
theorem tuningFrom_lifted (os:Os) (started:os.Started) (H:Type) (enc:TypeId×Value→H) :
  ReturnsInHanded {} Tryz.checked os 5 .any (fun w args=>(Rows.tuningFromSpec.pre enc Tryz.prog Tryz.f5 [] false w args∧laidMetH Tryz.prog fr_list w)∧sizedMet enc Tryz.prog Tryz.f5 (OpenSpec.ofChange Rows.tuningFromSpec) false w args)
   (Rows.tuningFromSpec.post enc Tryz.prog Tryz.f5 false true false false):=by
 refine returnsInHanded_of_change_and (C:=Tryz.checked) (X:=fun w _=>laidMetH Tryz.prog fr_list w) (fun _ _ _ hh h=>h.of_heap hh) fr_own started (by kernel_rfl) Tryz.func5
  (ChangeSpec.witness_shaped (enc:=enc) (C:=Tryz.checked) (os:=os) (X:=fun w _=>laidMetH Tryz.prog fr_list w) false (World.doorLaid Tryz.prog 400 os) #[.agg #[.int .u8 0,.slice none 0 0,.bool false],.agg #[.int .i8 0,.int .u8 0,.int .i8 0,.int .u8 0,.int .i8 0,.int .u8 0,.int .i8 0,.int .u8 0,.int .i8 0,.int .u8 0,.int .i8 0,.int .u8 0,.int .i8 0,.int .u8 0,.int .i8 0,.int .u8 0,.int .i8 0,.int .u8 0,.int .i8 0,.int .u8 0,.int .i8 0,.int .u8 0,.int .i8 0,.int .u8 0,.int .i8 0,.int .u8 0,.int .i8 0,.int .u8 0,.int .i8 0,.int .u8 0,.int .i8 0,.int .u8 0],.bool false] 8 rfl (World.shaped_of_RefB (by kernel_rfl) (by kernel_rfl)) (by kernel_rfl) (by kernel_rfl) (by kernel_rfl) (door_met os _)) ?_
 intro W base args ds gs before hval0 hW _ _ hL _
 have hval : ∀ (j:Nat) t v,Tryz.f5.params[j]? = some t→args[j]? = some v→Value.okWide Tryz.prog W .any base t v:=hval0
 have hW':=hW
 obtain ⟨p,q,hA0,hV,rfl,hfz,hnd⟩:=hW
 have hA:DataW.TrodAll enc Tryz.prog W 0 (fun _=>true) true Tryz.f5.params.toList args.toList ds p:=hA0
 rw [Tryz.params5] at hA hval
 obtain ⟨v0,v1,v2,d0,d1,d2,p0,p1,p2,rfl,rfl,rfl,h0,h1,h2⟩:=trodAll_three hA
 obtain ⟨rfl,rfl⟩:=trodVars_none hV
 obtain ⟨cs0,rfl,hs0⟩:=okWide_struct Tryz.underlying24 (hval 0 24 v0 rfl rfl)
 rw [fr_cP18] at hs0
 obtain ⟨cs1,rfl,hs1⟩:=okWide_arr Tryz.underlying56 (hval 1 56 v1 rfl rfl)
 rw [fr_cParts4] at hs1
 obtain ⟨bo2,rfl,eb2,_⟩:=open_bool Tryz.underlying4 (hval 2 4 v2 rfl rfl) h2
 have h0k:=h0
 have h1k:=h1
 have h2k:=h2
 obtain ⟨fuel0,hf0⟩:=h0
 obtain ⟨B0,rv0,vl0,Z0,rfl,hB0,hZ0⟩:=plan18_open hs0 hf0
 obtain ⟨fuel1,hf1⟩:=h1
 obtain ⟨pA1,pB1,hPv1,hq1⟩:=parts_open hs1 hf1
 rw [hPv1] at h1k hW' ⊢
 clear hA0 hval0 hf0 hf1
 simp only [List.append_nil] at hW'
 have hlt : ∀ z∈p0++p1++p2,z.block<W.heap.size:=fun z hz=>by simpa using hW'.lt z hz
 refine (tfr_walk (less:=bo2) hB0 hZ0 hq1 (laid_of hL)).mono ?_
 rintro e W' ⟨rfl,hE⟩
 have e1:Rows.tuningFromSpec.fn H ([d0,d1,d2]++[]) = { results:=[.lit (.bool true)],args:=[d0,d1,d2] }:=rfl
 refine ⟨_,rfl,_,_,_,[],p0++p1++p2,[],hW',?_,?_,?_,hE.frame _,fun h=>by cases h⟩
 ·rw [e1]; exact trodAll_mk1 (shut_bool Tryz.underlying4 true)
 ·rw [e1,List.append_assoc]; exact trodAll_mk3 (Below.trod fr_laidOut (by kernel_rfl) (of_decide_eq_true (by kernel_rfl)) h0k hE fun x hx=>hlt x (by simp [hx])) (Below.trod fr_laidOut (by kernel_rfl) (of_decide_eq_true (by kernel_rfl)) h1k hE fun x hx=>hlt x (by simp [hx])) (Below.trod fr_laidOut (by kernel_rfl) (of_decide_eq_true (by kernel_rfl)) h2k hE fun x hx=>hlt x (by simp [hx]))
 ·rw [e1]; rfl
set_option maxHeartbeats 20000000 in
theorem tuningFrom_holds:Rows.TuningFromSaid :=
 OpenClaim.holds_of_wide 5 Tryz.f5 rfl rfl rfl rfl rfl rfl rfl ⟨rfl,rfl,rfl,rfl,rfl⟩ rfl rfl rfl rfl rfl (by as_aux_lemma=>kernel_rfl) Tryz.func5 (by
   unfold joinedFacts
   simp only [Bool.and_eq_true]
   repeat' apply And.intro
   all_goals (as_aux_lemma=>kernel_rfl))
  (of_decide_eq_true (by kernel_rfl)) (by unfold Func.isWrapper; first | (rw [if_pos (by decide +kernel)]; kernel_rfl) | (rw [if_neg (by decide +kernel)]; exact ⟨rfl,rfl⟩))
  (fun os started H enc _=>tuningFrom_lifted os started H enc)
set_option maxHeartbeats 20000000 in
theorem tuningFrom_card:Rows.TuningFromCardSaid :=
 Claim7.holds_tied_plain_at .later [] [.data,.data,.data,.sentinel,.sentinel] true Rows.tuningFromCard.stood.harness true
  tuningFrom_holds (fun _ h=>by cases h) (by as_aux_lemma=>kernel_rfl) (fun _ h=>by cases h) tuningFrom_row_tie rfl ⟨rfl,rfl⟩ (by as_aux_lemma=>kernel_rfl) rfl
  (fun f fn hf hfn=>by
   obtain rfl : f = 5 := Option.some.inj ((show Tryz.prog.funcNamed "schisma/schismalaw24.TuningFrom" = some 5 by as_aux_lemma => kernel_rfl).symm.trans hf) |>.symm
   obtain rfl:fn=Tryz.f5:=(Option.some.inj (Tryz.func5.symm.trans hfn)).symm
   exact ⟨by as_aux_lemma=>kernel_rfl,fun j t ht=>by
    rw [Tryz.params5] at ht
    have hm:t∈[24,56,4]:=by simpa using Array.mem_of_getElem? ht
    have hall:([24,56,4].all fun u => !Tryz.prog.wantsStandIn u)=true:=by as_aux_lemma=>kernel_rfl
    exact (show Tryz.prog.wantsStandIn t=false by simpa using List.all_eq_true.1 hall t hm)⟩)
  (by as_aux_lemma=>kernel_rfl)
#print axioms tuningFrom_card
end Go.Proofs.YtjnpakablgommaaGreatDoor
