/- Part 10 of the proof of the claim: contracts of the functions that it reaches, and plain laws; no condition. -/
import Derived.Test.YtedlgnoiojcjaaaGreatDoorV09
set_option maxRecDepth 100000
namespace Go.Proofs.YtedlgnoiojcjaaaGreatDoor.Hnf
abbrev V := Nat → Int
def sub (v : V) (q : Int) (u : V) : V := fun j => v j - q * u j
inductive Span (M : List V) : V → Prop
 | zero : Span M (fun _ => 0)
 | step {v r : V} (q : Int) (h : Span M v) (hr : r ∈ M) : Span M (sub v q r)
theorem sub_zero (v : V) (q : Int) : sub v q (fun _ => 0) = v := by funext j; simp [sub]
theorem Span.sub {M : List V} {v u : V} (q : Int) (hv : Span M v) (hu : Span M u) : Span M (Hnf.sub v q u) := by
 induction hu with
 | zero => rw [sub_zero]; exact hv
 | @step u' r q' h hr ih =>
  have : Hnf.sub v q (Hnf.sub u' q' r) = Hnf.sub (Hnf.sub v q u') (-(q * q')) r := by
   funext j; simp only [Hnf.sub, Int.mul_sub, Int.neg_mul, Int.mul_assoc]; omega
  rw [this]; exact .step _ ih hr
theorem Span.mem {M : List V} {r : V} (h : r ∈ M) : Span M r := by
 have := Span.step (M := M) (-1) .zero h
 have e : Hnf.sub (fun _ => 0) (-1) r = r := by funext j; simp [Hnf.sub]
 rwa [e] at this
theorem Span.trans {M N : List V} (h : ∀ r ∈ M, Span N r) {v : V} (hv : Span M v) : Span N v := by
 induction hv with
 | zero => exact .zero
 | step q _ hr ih => exact ih.sub q (h _ hr)
theorem Span.mono {M N : List V} (h : ∀ r ∈ M, r ∈ N) {v : V} (hv : Span M v) : Span N v := hv.trans fun r hr => .mem (h r hr)
theorem Span.cons {f : V} {M : List V} {v : V} (h : Span (f :: M) v) : ∃ c : Int, ∃ u, Span M u ∧ ∀ j, v j = c * f j + u j := by
 induction h with
 | zero => exact ⟨0, _, .zero, fun j => by simp⟩
 | @step v r q _ hr ih =>
  obtain ⟨c, u, hu, e⟩ := ih
  rcases List.mem_cons.1 hr with rfl | hr
  ·exact ⟨c - q, u, hu, fun j => by simp only [Hnf.sub, e j, Int.sub_mul]; omega⟩
  ·exact ⟨c, _, hu.step q hr, fun j => by simp only [Hnf.sub, e j]; omega⟩
def Ech : Nat → List (Nat × V) → Prop
 | _, [] => True
 | b, (p, f) :: F => b ≤ p ∧ (∀ j, j < p → f j = 0) ∧ 0 < f p ∧ Ech (p + 1) F
def Red : List (Nat × V) → Prop
  | [] => True
  | (_, f) :: F => (∀ g ∈ F, 0 ≤ f g.1 ∧ f g.1 < g.2 g.1) ∧ Red F
def rows (F : List (Nat × V)) : List V := F.map (·.2)
theorem Ech.mono {F : List (Nat × V)} {a b : Nat} (h : Ech b F) (hab : a ≤ b) : Ech a F := by
 cases F with
 | nil => trivial
 | cons g F => obtain ⟨p, f⟩ := g; exact ⟨Nat.le_trans hab h.1, h.2⟩
theorem Ech.mem {F : List (Nat × V)} : ∀ {b : Nat}, Ech b F → ∀ g ∈ F, b ≤ g.1 ∧ (∀ j, j < g.1 → g.2 j = 0) ∧ 0 < g.2 g.1 := by
 induction F with
 | nil => intro b _ g hg; cases hg
 | cons f F ih =>
  intro b h g hg
  obtain ⟨p, f⟩ := f
  rcases List.mem_cons.1 hg with rfl | hg
  ·exact ⟨h.1, h.2.1, h.2.2.1⟩
  ·have := ih h.2.2.2 g hg; have := h.1; exact ⟨by omega, ‹_ ∧ _ ∧ _›.2⟩
theorem Ech.span_zero {F : List (Nat × V)} {b : Nat} (h : Ech b F) {v : V} (hv : Span (rows F) v) : ∀ j, j < b → v j = 0 := by
 induction hv with
 | zero => intro j _; rfl
 | @step v r q _ hr ih =>
  intro j hj
  obtain ⟨g, hg, rfl⟩ := List.mem_map.1 hr
  have := h.mem g hg
  simp [Hnf.sub, ih j hj, this.2.1 j (by omega)]
theorem first (v : V) : (∀ j, v j = 0) ∨ ∃ j, v j ≠ 0 ∧ ∀ i, i < j → v i = 0 := by
 by_cases h : ∃ j, v j ≠ 0
 ·right
  obtain ⟨j, hj⟩ := h
  induction j using Nat.strongRecOn with
  | _ j ih =>
   by_cases h' : ∃ i, i < j ∧ v i ≠ 0
   ·obtain ⟨i, hi, hv⟩ := h'; exact ih i hi hv
   ·exact ⟨j, hj, fun i hi => Classical.byContradiction fun hc => h' ⟨i, hi, hc⟩⟩
 ·left; intro j; exact Classical.byContradiction fun hc => h ⟨j, hc⟩
theorem rows_cons (p : Nat) (f : V) (F : List (Nat × V)) : rows ((p, f) :: F) = f :: rows F := rfl
theorem Ech.lead {F : List (Nat × V)} : ∀ {b : Nat}, Ech b F → ∀ {v : V} {j : Nat}, Span (rows F) v → v j ≠ 0 → (∀ i, i < j → v i = 0) → ∃ g ∈ F, g.1 = j ∧ g.2 j ∣ v j := by
 induction F with
 | nil =>
  intro b _ v j hv hj _
  have : ∀ {w : V}, Span (rows []) w → w j = 0 := by
   intro w hw
   induction hw with
   | zero => rfl
   | step _ _ hr _ => simp [rows] at hr
  exact absurd (this hv) hj
 | cons f F ih =>
  intro b h v j hv hj hz
  obtain ⟨p, f⟩ := f
  rw [rows_cons] at hv
  obtain ⟨c, u, hu, e⟩ := hv.cons
  obtain ⟨_, h2, h3, h4⟩ := h
  have up : u p = 0 := h4.span_zero hu p (by omega)
  by_cases hlt : j < p
  ·exact absurd (by rw [e j, h2 j hlt, h4.span_zero hu j (by omega)]; simp) hj
  ·by_cases hjp : j = p
   ·subst hjp
    exact ⟨(j, f), by simp, rfl, ⟨c, by rw [e j, up, Int.mul_comm]; simp⟩⟩
   ·have hp := hz p (by omega)
    rw [e p, up] at hp
    have hc : c = 0 := by
     rcases Int.mul_eq_zero.1 (by omega : c * f p = 0) with hc | hc
     ·exact hc
     ·omega
    subst hc
    have hvu : v = u := by funext i; rw [e i]; simp
    subst hvu
    obtain ⟨g, hg, hg'⟩ := ih h4 hu hj hz
    exact ⟨g, List.mem_cons_of_mem _ hg, hg'⟩
theorem Ech.tail {p : Nat} {f : V} {F : List (Nat × V)} {b : Nat} (h : Ech b ((p, f) :: F)) {v : V} (hv : Span (rows ((p, f) :: F)) v) (hp : v p = 0) : Span (rows F) v := by
 rw [rows_cons] at hv
 obtain ⟨c, u, hu, e⟩ := hv.cons
 obtain ⟨_, _, h3, h4⟩ := h
 have up : u p = 0 := h4.span_zero hu p (by omega)
 rw [e p, up] at hp
 have hc : c = 0 := by
  rcases Int.mul_eq_zero.1 (by omega : c * f p = 0) with hc | hc
  ·exact hc
  ·omega
 subst hc
 have hvu : v = u := by funext i; rw [e i]; simp
 subst hvu
 exact hu
theorem unique : ∀ {A B : List (Nat × V)} {a b : Nat}, Ech a A → Red A → Ech b B → Red B → (∀ r ∈ rows A, Span (rows B) r) → (∀ r ∈ rows B, Span (rows A) r) → A = B := by
 intro A
 induction A with
 | nil =>
  intro B a b _ _ hB _ _ h2
  cases B with
  | nil => rfl
  | cons g B =>
   obtain ⟨q, g⟩ := g
   have := h2 g (by simp [rows])
   have hz : ∀ {w : V}, Span (rows []) w → ∀ j, w j = 0 := by
    intro w hw
    induction hw with
    | zero => intro j; rfl
    | step _ _ hr _ => simp [rows] at hr
   have := hz this q
   have := hB.2.2.1
   omega
 | cons f A ih =>
  intro B a b hA hrA hB hrB h1 h2
  obtain ⟨p, f⟩ := f
  cases B with
  | nil =>
   have := h1 f (by simp [rows])
   have hz : ∀ {w : V}, Span (rows []) w → ∀ j, w j = 0 := by
    intro w hw
    induction hw with
    | zero => intro j; rfl
    | step _ _ hr _ => simp [rows] at hr
   have := hz this p
   have := hA.2.2.1
   omega
  | cons g B =>
   obtain ⟨q, g⟩ := g
   have hfB := h1 f (by simp [rows])
   have hgA := h2 g (by simp [rows])
   -- the first pivots are one
   obtain ⟨x, hx, hxp, hxd⟩ := hB.lead hfB (j := p) (by have := hA.2.2.1; omega) hA.2.1
   obtain ⟨y, hy, hyq, hyd⟩ := hA.lead hgA (j := q) (by have := hB.2.2.1; omega) hB.2.1
   have hqp : q ≤ p := by
    rcases List.mem_cons.1 hx with rfl | hx
    ·exact Nat.le_of_eq hxp
    ·have := (hB.2.2.2.mem x hx).1; omega
   have hpq : p ≤ q := by
    rcases List.mem_cons.1 hy with rfl | hy
    ·exact Nat.le_of_eq hyq
    ·have := (hA.2.2.2.mem y hy).1; omega
   obtain rfl : p = q := Nat.le_antisymm hpq hqp
   have hx' : x = (p, g) := by
    rcases List.mem_cons.1 hx with h | hx
    ·exact h
    ·have := (hB.2.2.2.mem x hx).1; omega
   have hy' : y = (p, f) := by
    rcases List.mem_cons.1 hy with h | hy
    ·exact h
    ·have := (hA.2.2.2.mem y hy).1; omega
   subst hx' hy'
   have hpv : f p = g p := Int.dvd_antisymm (by have := hA.2.2.1; omega) (by have := hB.2.2.1; omega) hyd hxd
   have hAt := hA.2.2.2
   have hBt := hB.2.2.2
   have hAB : A = B := by
    refine ih hAt hrA.2 hBt hrB.2 (fun r hr => ?_) (fun r hr => ?_)
    ·exact hB.tail (h1 r (by simp [rows] at hr ⊢; exact .inr hr)) (hAt.span_zero (.mem hr) p (by omega))
    ·exact hA.tail (h2 r (by simp [rows] at hr ⊢; exact .inr hr)) (hBt.span_zero (.mem hr) p (by omega))
   subst hAB
   have hfg : f = g := by
    have hd : Span (rows A) (Hnf.sub f 1 g) := hB.tail (hfB.sub 1 (.mem (by simp [rows]))) (by simp [Hnf.sub, hpv])
    rcases first (Hnf.sub f 1 g) with hz | ⟨j, hj, hz⟩
    ·funext j; have := hz j; simp [Hnf.sub] at this; omega
    ·obtain ⟨x, hx, rfl, hxd⟩ := hAt.lead hd hj hz
     have b1 := hrA.1 x hx
     have b2 := hrB.1 x hx
     obtain ⟨c, hc⟩ := hxd
     exfalso
     have hpos := (hAt.mem x hx).2.2
     simp only [Hnf.sub, Int.one_mul] at hc hj
     have hlt : (x.2 x.1 * c).natAbs < (x.2 x.1).natAbs := by rw [← hc]; omega
     rw [Int.natAbs_mul] at hlt
     have : c.natAbs = 0 := by
      rcases Nat.eq_zero_or_pos c.natAbs with h | h
      ·exact h
      ·have := Nat.mul_le_mul_left (x.2 x.1).natAbs h; omega
     have : c = 0 := by omega
     subst this
     simp at hc
     omega
   subst hfg
   rfl
end Go.Proofs.YtedlgnoiojcjaaaGreatDoor.Hnf
namespace Go.Proofs.YtedlgnoiojcjaaaGreatDoor
inductive Step (d : Nat) : List Ln → List Ln → Prop
 | swap (ls : List Ln) (i j : Nat) (hi : i < ls.length) (hj : j < ls.length) (di : d ≤ i) (dj : d ≤ j) : Step d ls ((ls.set i ls[j]).set j ls[i])
 | sub (ls : List Ln) (i j : Nat) (k : Int) (hi : i < ls.length) (hj : j < ls.length) (hij : i ≠ j) (di : d ≤ i) (dj : d ≤ j) : Step d ls (ls.set i (lsub k ls[i] ls[j]))
 | neg (ls : List Ln) (i : Nat) (hi : i < ls.length) (di : d ≤ i) : Step d ls (ls.set i (lneg ls[i]))
inductive Ops (d : Nat) : List Ln → List Ln → Prop
 | refl (ls : List Ln) : Ops d ls ls
 | step {a b c : List Ln} : Ops d a b → Step d b c → Ops d a c
theorem Ops.trans {d : Nat} {a b c : List Ln} (h : Ops d a b) (k : Ops d b c) : Ops d a c := by
 induction k with
 | refl => exact h
 | step _ s ih => exact .step ih s
theorem Ops.one {d : Nat} {a b : List Ln} (h : Step d a b) : Ops d a b := .step (.refl a) h
theorem Step.length {d : Nat} {a b : List Ln} (h : Step d a b) : b.length = a.length := by
 cases h <;> simp
theorem Ops.length {d : Nat} {a b : List Ln} (h : Ops d a b) : b.length = a.length := by
 induction h with
 | refl => rfl
 | step _ s ih => rw [s.length, ih]
theorem Step.mono {d e : Nat} {a b : List Ln} (h : Step d a b) (he : e ≤ d) : Step e a b := by
 cases h with
 | swap i j hi hj di dj => exact .swap _ i j hi hj (by omega) (by omega)
 | sub i j k hi hj hij di dj => exact .sub _ i j k hi hj hij (by omega) (by omega)
 | neg i hi di => exact .neg _ i hi (by omega)
theorem Ops.mono {d e : Nat} {a b : List Ln} (h : Ops d a b) (he : e ≤ d) : Ops e a b := by
 induction h with
 | refl => exact .refl _
 | step _ s ih => exact .step ih (s.mono he)
theorem Step.ahead {d : Nat} {a b : List Ln} (h : Step d a b) {i : Nat} (hi : i < d) : b[i]? = a[i]? := by
 cases h with
 | swap p q hp hq dp dq => rw [List.getElem?_set_ne (by omega), List.getElem?_set_ne (by omega)]
 | sub p q k hp hq hpq dp dq => rw [List.getElem?_set_ne (by omega)]
 | neg p hp dp => rw [List.getElem?_set_ne (by omega)]
theorem Ops.ahead {d : Nat} {a b : List Ln} (h : Ops d a b) {i : Nat} (hi : i < d) : b[i]? = a[i]? := by
 induction h with
 | refl => rfl
 | step _ s ih => rw [s.ahead hi, ih]
def Dim (n m : Nat) (ls : List Ln) : Prop := ∀ l ∈ ls, l.1.length = n ∧ l.2.length = m
theorem Dim.get {n m : Nat} {ls : List Ln} (h : Dim n m ls) {i : Nat} (hi : i < ls.length) : ls[i].1.length = n ∧ ls[i].2.length = m := h _ (List.getElem_mem hi)
theorem Dim.set {n m : Nat} {ls : List Ln} (h : Dim n m ls) (i : Nat) {l : Ln} (hl : l.1.length = n ∧ l.2.length = m) : Dim n m (ls.set i l) := by
 intro x hx
 rcases List.mem_or_eq_of_mem_set hx with hx | rfl
 ·exact h x hx
 ·exact hl
theorem Dim.step {n m e : Nat} {a b : List Ln} (h : Dim n m a) (s : Step e a b) : Dim n m b := by
 cases s with
 | swap i j hi hj di dj => exact (h.set i (h.get hj)).set j (h.get hi)
 | sub i j k hi hj hij di dj => exact h.set i (by simp only [lsub, subK_length]; exact h.get hi)
 | neg i hi di => exact h.set i (by simp only [lneg, List.length_map]; exact h.get hi)
theorem Dim.ops {n m e : Nat} {a b : List Ln} (h : Dim n m a) (s : Ops e a b) : Dim n m b := by
 induction s with
 | refl => exact h
 | step _ t ih => exact ih.step t
def col (c : Nat) (l : Ln) : Int := l.1.getD c 0
def redL (c : Nat) (top l : Ln) : Ln := lsub ((col c l).fdiv (col c top)) l top
def redTo (c d j : Nat) (ls : List Ln) : List Ln := ls.mapIdx fun i l => if d < i ∧ i ≤ d + j then redL c (ls.getD d default) l else l
@[simp] theorem redTo_length (c d j : Nat) (ls : List Ln) : (redTo c d j ls).length = ls.length := by simp [redTo]
theorem redTo_get (c d j : Nat) (ls : List Ln) (i : Nat) (h : i < ls.length) : (redTo c d j ls)[i]'(by simpa using h) = if d < i ∧ i ≤ d + j then redL c (ls.getD d default) ls[i] else ls[i] := by
 simp [redTo]
theorem redTo_zero (c d : Nat) (ls : List Ln) : redTo c d 0 ls = ls := by
 refine List.ext_getElem (by simp) fun i h1 h2 => ?_
 rw [redTo_get _ _ _ _ _ h2, if_neg (by omega)]
theorem redTo_step (c d j : Nat) (ls : List Ln) (h : d + j + 1 < ls.length) :
  redTo c d (j + 1) ls = (redTo c d j ls).set (d + j + 1) (lsub ((col c ((redTo c d j ls)[d + j + 1]'(by simpa using h))).fdiv (col c ((redTo c d j ls)[d]'(by simp; omega)))) ((redTo c d j ls)[d + j + 1]'(by simpa using h)) ((redTo c d j ls)[d]'(by simp; omega))) := by
 have e1 : (redTo c d j ls)[d + j + 1]'(by simpa using h) = ls[d + j + 1] := by rw [redTo_get _ _ _ _ _ h, if_neg (by omega)]
 have e2 : (redTo c d j ls)[d]'(by simp; omega) = ls[d] := by rw [redTo_get _ _ _ _ _ (by omega), if_neg (by omega)]
 refine List.ext_getElem (by simp) fun i h1 h2 => ?_
 have hi : i < ls.length := by simpa using h1
 rw [redTo_get _ _ _ _ _ hi]
 by_cases hid : i = d + j + 1
 ·subst hid
  rw [List.getElem_set_self, if_pos (by omega), e1, e2]
  have : ls.getD d default = ls[d] := by simp [List.getD_eq_getElem?_getD, List.getElem?_eq_getElem (show d < ls.length by omega)]
  rw [this]; rfl
 ·rw [List.getElem_set_ne (Ne.symm hid), redTo_get _ _ _ _ _ hi]
  by_cases hb : d < i ∧ i ≤ d + j
  ·rw [if_pos hb, if_pos (by omega)]
  ·rw [if_neg hb, if_neg (by omega)]
theorem redTo_ops (c d : Nat) (ls : List Ln) : ∀ j, d + j < ls.length → Ops d ls (redTo c d j ls)
 | 0, _ => by rw [redTo_zero]; exact .refl _
 | j + 1, h => by
  rw [redTo_step c d j ls (by omega)]
  exact .step (redTo_ops c d ls j (by omega)) (.sub _ (d + j + 1) d _ (by simp; omega) (by simp; omega) (by omega) (by omega) (by omega))
def All (Q : Int → Prop) (l : Ln) : Prop := (∀ z ∈ l.1, Q z) ∧ (∀ z ∈ l.2, Q z)
theorem All.mono {Q R : Int → Prop} {l : Ln} (h : All Q l) (hQ : ∀ z, Q z → R z) : All R l := ⟨fun z hz => hQ z (h.1 z hz), fun z hz => hQ z (h.2 z hz)⟩
theorem subK_all (k : Int) {Q R T : Int → Prop} (h0 : ∀ x, Q x → T x) (h1 : ∀ x y, Q x → R y → T (x - k * y)) : ∀ a b : List Int, (∀ z ∈ a, Q z) → (∀ z ∈ b, R z) → ∀ z ∈ subK k a b, T z
 | a, [], ha, _, z, hz => by rw [subK_nil] at hz; exact h0 z (ha z hz)
 | [], _ :: _, _, _, z, hz => by cases hz
 | x :: a, y :: b, ha, hb, z, hz => by
  rw [subK] at hz
  rcases List.mem_cons.1 hz with rfl | hz
  ·exact h1 x y (ha x (by simp)) (hb y (by simp))
  ·exact subK_all k h0 h1 a b (fun z h => ha z (by simp [h])) (fun z h => hb z (by simp [h])) z hz
theorem All.lsub (k : Int) {Q R T : Int → Prop} (h0 : ∀ x, Q x → T x) (h1 : ∀ x y, Q x → R y → T (x - k * y)) {a b : Ln} (ha : All Q a) (hb : All R b) : All T (lsub k a b) :=
 ⟨subK_all k h0 h1 _ _ ha.1 hb.1, subK_all k h0 h1 _ _ ha.2 hb.2⟩
theorem All.lneg {Q : Int → Prop} (hQ : ∀ z, Q z → Q (-z)) {a : Ln} (ha : All Q a) : All Q (lneg a) := by
 constructor
 ·intro z hz; obtain ⟨y, hy, rfl⟩ := List.mem_map.1 hz; exact hQ y (ha.1 y hy)
 ·intro z hz; obtain ⟨y, hy, rfl⟩ := List.mem_map.1 hz; exact hQ y (ha.2 y hy)
theorem All.col {Q : Int → Prop} {l : Ln} (h : All Q l) (h0 : Q 0) (c : Nat) : Q (col c l) := by
 unfold Go.Proofs.YtedlgnoiojcjaaaGreatDoor.col
 rw [List.getD_eq_getElem?_getD]
 rcases Nat.lt_or_ge c l.1.length with hc | hc
 ·rw [List.getElem?_eq_getElem hc]; exact h.1 _ (List.getElem_mem hc)
 ·rw [List.getElem?_eq_none hc]; exact h0
theorem col_lsub (c : Nat) (k : Int) {a b : Ln} (h : b.1.length ≤ a.1.length) : col c (lsub k a b) = col c a - k * col c b := subK_getD k a.1 b.1 c h
theorem col_lneg (c : Nat) (a : Ln) : col c (lneg a) = -col c a := by
 unfold col lneg
 simp only [List.getD_eq_getElem?_getD, List.getElem?_map]
 cases a.1[c]? <;> simp
theorem fdr_pos {x b : Int} (hb : 0 < b) : 0 ≤ x - x.fdiv b * b ∧ x - x.fdiv b * b < b := by
 have h := (Int.fdiv_fmod_unique (a := x) (q := x.fdiv b) (r := x.fmod b) hb).1 ⟨rfl, rfl⟩
 rw [Int.mul_comm b] at h
 omega
theorem fdr_neg {x b : Int} (hb : b < 0) : b < x - x.fdiv b * b ∧ x - x.fdiv b * b ≤ 0 := by
 have h := (Int.fdiv_fmod_unique' (a := x) (q := x.fdiv b) (r := x.fmod b) hb).1 ⟨rfl, rfl⟩
 rw [Int.mul_comm b] at h
 omega
theorem fdr_abs {x b : Int} (hb : b ≠ 0) : (x - x.fdiv b * b).natAbs < b.natAbs := by
 rcases Int.lt_or_gt_of_ne hb with h | h
 ·have := fdr_neg (x := x) h; omega
 ·have := fdr_pos (x := x) h; omega
theorem fdiv_abs (x : Int) {b : Int} (hb : b ≠ 0) : (x.fdiv b).natAbs ≤ x.natAbs := by
 rcases Int.lt_or_gt_of_ne hb with h | h
 ·have h1 := fdr_neg (x := x) h
  generalize x.fdiv b = q at *
  rcases Int.lt_trichotomy q 0 with hq | hq | hq
  ·have : (q + 1) * (b + 1) ≥ 0 := Int.mul_nonneg_of_nonpos_of_nonpos (by omega) (by omega)
   have e : (q + 1) * (b + 1) = q * b + q + b + 1 := by grind
   omega
  ·omega
  ·have : q * (-b - 1) ≥ 0 := Int.mul_nonneg (by omega) (by omega)
   have e : q * (-b - 1) = -(q * b) - q := by grind
   omega
 ·have h1 := fdr_pos (x := x) h
  generalize x.fdiv b = q at *
  rcases Int.lt_trichotomy q 0 with hq | hq | hq
  ·have : (q + 1) * (1 - b) ≥ 0 := Int.mul_nonneg_of_nonpos_of_nonpos (by omega) (by omega)
   have e : (q + 1) * (1 - b) = q + 1 - q * b - b := by grind
   omega
  ·omega
  ·have : q * (b - 1) ≥ 0 := Int.mul_nonneg (by omega) (by omega)
   have e : q * (b - 1) = q * b - q := by grind
   omega
theorem fdr_gain {x b : Int} (hb : b ≠ 0) (hs : (0 ≤ x ∧ 0 ≤ b) ∨ (x ≤ 0 ∧ b ≤ 0)) : ((x - x.fdiv b * b).natAbs + 1) * ((x.fdiv b).natAbs + 1) ≤ x.natAbs + 1 := by
 have key : ∀ Q B R X : Nat, X = Q * B + R → R < B → (R + 1) * (Q + 1) ≤ X + 1 := by
  intro Q B R X hX hR
  have : Q * (R + 1) ≤ Q * B := Nat.mul_le_mul_left _ hR
  have e : (R + 1) * (Q + 1) = Q * (R + 1) + R + 1 := by grind
  omega
 rcases hs with ⟨hx, hb'⟩ | ⟨hx, hb'⟩
 ·have h1 := fdr_pos (x := x) (b := b) (by omega)
  have hq : 0 ≤ x.fdiv b := by
   rcases Int.lt_or_le (x.fdiv b) 0 with hq | hq
   ·have : (x.fdiv b + 1) * b ≤ 0 := Int.mul_nonpos_of_nonpos_of_nonneg (by omega) hb'
    have e : (x.fdiv b + 1) * b = x.fdiv b * b + b := by grind
    omega
   ·exact hq
  refine key _ b.natAbs _ _ ?_ (by omega)
  have : ((x.fdiv b).natAbs * b.natAbs : Nat) = (x.fdiv b * b).natAbs := (Int.natAbs_mul _ _).symm
  have h3 : 0 ≤ x.fdiv b * b := Int.mul_nonneg hq hb'
  omega
 ·have h1 := fdr_neg (x := x) (b := b) (by omega)
  have hq : 0 ≤ x.fdiv b := by
   rcases Int.lt_or_le (x.fdiv b) 0 with hq | hq
   ·have : (x.fdiv b + 1) * b ≥ 0 := Int.mul_nonneg_of_nonpos_of_nonpos (by omega) hb'
    have e : (x.fdiv b + 1) * b = x.fdiv b * b + b := by grind
    omega
   ·exact hq
  refine key _ b.natAbs _ _ ?_ (by omega)
  have : ((x.fdiv b).natAbs * b.natAbs : Nat) = (x.fdiv b * b).natAbs := (Int.natAbs_mul _ _).symm
  have h3 : x.fdiv b * b ≤ 0 := Int.mul_nonpos_of_nonneg_of_nonpos hq hb'
  omega
def sm (f : Nat → Int) : Nat → Nat
 | 0 => 0
 | i + 1 => sm f i + (f i).natAbs
def prd (f : Nat → Int) : Nat → Nat
 | 0 => 1
 | i + 1 => prd f i * ((f i).natAbs + 1)
theorem sm_congr {f g : Nat → Int} : ∀ {N : Nat}, (∀ t, t < N → f t = g t) → sm f N = sm g N
 | 0, _ => rfl
 | N + 1, h => by rw [sm, sm, sm_congr (fun t ht => h t (by omega)), h N (by omega)]
theorem prd_congr {f g : Nat → Int} : ∀ {N : Nat}, (∀ t, t < N → f t = g t) → prd f N = prd g N
 | 0, _ => rfl
 | N + 1, h => by rw [prd, prd, prd_congr (fun t ht => h t (by omega)), h N (by omega)]
theorem sm_mono {f g : Nat → Int} : ∀ {N : Nat}, (∀ t, t < N → (f t).natAbs ≤ (g t).natAbs) → sm f N ≤ sm g N
 | 0, _ => Nat.le_refl _
 | N + 1, h => by have := sm_mono (N := N) (fun t ht => h t (by omega)); have := h N (by omega); rw [sm, sm]; omega
theorem sm_lt {f g : Nat → Int} : ∀ {N : Nat}, (∀ t, t < N → (f t).natAbs ≤ (g t).natAbs) → ∀ s, s < N → (f s).natAbs < (g s).natAbs → sm f N < sm g N
 | 0, _, s, hs, _ => by omega
 | N + 1, h, s, hs, hl => by
  rw [sm, sm]
  by_cases e : s = N
  ·subst e; have := sm_mono (N := s) (fun t ht => h t (by omega)); omega
  ·have := sm_lt (N := N) (fun t ht => h t (by omega)) s (by omega) hl; have := h N (by omega); omega
theorem prd_pos (f : Nat → Int) : ∀ N, 0 < prd f N
 | 0 => by simp [prd]
 | N + 1 => by rw [prd]; exact Nat.mul_pos (prd_pos f N) (by omega)
theorem prd_mono {f g : Nat → Int} : ∀ {N : Nat}, (∀ t, t < N → (f t).natAbs ≤ (g t).natAbs) → prd f N ≤ prd g N
 | 0, _ => Nat.le_refl _
 | N + 1, h => by rw [prd, prd]; exact Nat.mul_le_mul (prd_mono (fun t ht => h t (by omega))) (by have := h N (by omega); omega)
theorem prd_gain {f g : Nat → Int} : ∀ {N : Nat}, (∀ t, t < N → (f t).natAbs ≤ (g t).natAbs) → ∀ s k, s < N → ((f s).natAbs + 1) * k ≤ (g s).natAbs + 1 → prd f N * k ≤ prd g N
 | 0, _, s, k, hs, _ => by omega
 | N + 1, h, s, k, hs, hl => by
  rw [prd, prd]
  by_cases e : s = N
  ·subst e
   rw [Nat.mul_assoc]
   exact Nat.mul_le_mul (prd_mono (fun t ht => h t (by omega))) hl
  ·have h1 := prd_gain (N := N) (fun t ht => h t (by omega)) s k (by omega) hl
   have h2 : (f N).natAbs + 1 ≤ (g N).natAbs + 1 := by have := h N (by omega); omega
   calc prd f N * ((f N).natAbs + 1) * k = prd f N * k * ((f N).natAbs + 1) := by grind
    _ ≤ _ := Nat.mul_le_mul h1 h2
theorem prd_pow {f : Nat → Int} (k : Nat) : ∀ {N : Nat}, (∀ t, t < N → (f t).natAbs < 2 ^ k) → prd f N ≤ 2 ^ (k * N)
 | 0, _ => by simp [prd]
 | N + 1, h => by
  rw [prd, show k * (N + 1) = k * N + k from Nat.mul_succ _ _, Nat.pow_add]
  exact Nat.mul_le_mul (prd_pow k (fun t ht => h t (by omega))) (h N (by omega))
def upd (f : Nat → Int) (i : Nat) (v : Int) : Nat → Int := fun t => if t = i then v else f t
theorem sm_upd (f : Nat → Int) (i : Nat) (v : Int) : ∀ N, i < N → sm (upd f i v) N + (f i).natAbs = sm f N + v.natAbs
 | 0, h => by omega
 | N + 1, h => by
  rw [sm, sm]
  by_cases e : i = N
  ·subst e
   rw [sm_congr (f := upd f i v) (g := f) (fun t ht => by unfold upd; rw [if_neg (by omega)])]
   simp [upd]; omega
  ·have := sm_upd f i v N (by omega)
   have : upd f i v N = f N := by unfold upd; rw [if_neg (by omega)]
   rw [this]; omega
theorem prd_upd (f : Nat → Int) (i : Nat) (v : Int) : ∀ N, i < N → prd (upd f i v) N * ((f i).natAbs + 1) = prd f N * (v.natAbs + 1)
 | 0, h => by omega
 | N + 1, h => by
  rw [prd, prd]
  by_cases e : i = N
  ·subst e
   rw [prd_congr (f := upd f i v) (g := f) (fun t ht => by unfold upd; rw [if_neg (by omega)])]
   simp [upd]; grind
  ·have h1 := prd_upd f i v N (by omega)
   have : upd f i v N = f N := by unfold upd; rw [if_neg (by omega)]
   rw [this]
   calc prd (upd f i v) N * ((f N).natAbs + 1) * ((f i).natAbs + 1) = prd (upd f i v) N * ((f i).natAbs + 1) * ((f N).natAbs + 1) := by grind
    _ = _ := by rw [h1]; grind
def swf (f : Nat → Int) (p : Nat) : Nat → Int := fun t => if t = p then f 0 else if t = 0 then f p else f t
theorem swf_eq (f : Nat → Int) (p : Nat) : swf f p = upd (upd f 0 (f p)) p (f 0) := by
 funext t; simp [swf, upd]
theorem sm_swf (f : Nat → Int) {p N : Nat} (hp : p < N) : sm (swf f p) N = sm f N := by
 rw [swf_eq]
 have h1 := sm_upd f 0 (f p) N (by omega)
 have h2 := sm_upd (upd f 0 (f p)) p (f 0) N hp
 have e : upd f 0 (f p) p = f p := by unfold upd; split <;> simp_all
 rw [e] at h2
 omega
theorem prd_swf (f : Nat → Int) {p N : Nat} (hp : p < N) : prd (swf f p) N = prd f N := by
 rw [swf_eq]
 have h1 := prd_upd f 0 (f p) N (by omega)
 have h2 := prd_upd (upd f 0 (f p)) p (f 0) N hp
 have e : upd f 0 (f p) p = f p := by unfold upd; split <;> simp_all
 rw [e] at h2
 have h3 : prd (upd (upd f 0 (f p)) p (f 0)) N * ((f p).natAbs + 1) = prd f N * ((f p).natAbs + 1) := by rw [h2, h1]
 exact Nat.eq_of_mul_eq_mul_right (by omega) h3
def SS (f : Nat → Int) (N : Nat) : Prop := (∀ t, t < N → 0 ≤ f t) ∨ (∀ t, t < N → f t ≤ 0)
def rdf (f : Nat → Int) : Nat → Int := fun t => if t = 0 then f 0 else f t - (f t).fdiv (f 0) * f 0
theorem rdf_ss (f : Nat → Int) (N : Nat) (h : f 0 ≠ 0) : SS (rdf f) N := by
 rcases Int.lt_or_gt_of_ne h with h | h
 ·right; intro t _; unfold rdf; split
  ·omega
  ·exact (fdr_neg h).2
 ·left; intro t _; unfold rdf; split
  ·omega
  ·exact (fdr_pos h).1
theorem rdf_le (f : Nat → Int) {N : Nat} (h : f 0 ≠ 0) (hm : ∀ t, t < N → f t ≠ 0 → (f 0).natAbs ≤ (f t).natAbs) : ∀ t, t < N → (rdf f t).natAbs ≤ (f t).natAbs := by
 intro t ht
 unfold rdf
 split
 ·rename_i e; subst e; omega
 ·by_cases hz : f t = 0
  ·rw [hz]; simp
  ·have := fdr_abs (x := f t) h; have := hm t ht hz; omega
theorem rdf_lt (f : Nat → Int) {N s : Nat} (h : f 0 ≠ 0) (hm : ∀ t, t < N → f t ≠ 0 → (f 0).natAbs ≤ (f t).natAbs) (hs : s < N) (h0 : s ≠ 0) (hz : f s ≠ 0) : sm (rdf f) N < sm f N := by
 refine sm_lt (rdf_le f h hm) s hs ?_
 unfold rdf; rw [if_neg h0]
 have := fdr_abs (x := f s) h; have := hm s hs hz; omega
theorem rdf_gain (f : Nat → Int) {N s : Nat} (h : f 0 ≠ 0) (hm : ∀ t, t < N → f t ≠ 0 → (f 0).natAbs ≤ (f t).natAbs) (hS : SS f N) (hs : s < N) (h0 : s ≠ 0) : prd (rdf f) N * (((f s).fdiv (f 0)).natAbs + 1) ≤ prd f N := by
 refine prd_gain (rdf_le f h hm) s _ hs ?_
 unfold rdf; rw [if_neg h0]
 refine fdr_gain h ?_
 rcases hS with hS | hS
 ·exact .inl ⟨hS s hs, hS 0 (by omega)⟩
 ·exact .inr ⟨hS s hs, hS 0 (by omega)⟩
def cntNZ (f : Nat → Int) : Nat → Nat
 | 0 => 0
 | i + 1 => cntNZ f i + if f i = 0 then 0 else 1
def cols (c d : Nat) (ls : List Ln) (t : Nat) : Int := col c (ls.getD (d + t) default)
def swp (ls : List Ln) (i j : Nat) : List Ln := (ls.set i (ls.getD j default)).set j (ls.getD i default)
theorem cnt_pos {f : Nat → Int} {p : Nat} (hz : f p ≠ 0) : ∀ {N}, p < N → 1 ≤ cntNZ f N
 | 0, h => by omega
 | N + 1, h => by
  rw [cntNZ]
  by_cases e : p = N
  ·subst e; rw [if_neg hz]; omega
  ·have := cnt_pos hz (N := N) (by omega); omega
theorem cnt_two {f : Nat → Int} {p s : Nat} (hz : f p ≠ 0) (hy : f s ≠ 0) (hne : p ≠ s) : ∀ {N}, p < N → s < N → 2 ≤ cntNZ f N
 | 0, h, _ => by omega
 | N + 1, h, h' => by
  rw [cntNZ]
  by_cases e : p = N
  ·subst e; rw [if_neg hz]; have := cnt_pos hy (N := p) (by omega); omega
  ·by_cases e2 : s = N
   ·subst e2; rw [if_neg hy]; have := cnt_pos hz (N := s) (by omega); omega
   ·have := cnt_two hz hy hne (N := N) (by omega) (by omega); omega
theorem cnt_one {f : Nat → Int} {p N : Nat} (hz : f p ≠ 0) (hp : p < N) (h : cntNZ f N = 1) : ∀ t, t < N → t ≠ p → f t = 0 := fun t ht hne =>
 Classical.byContradiction fun hy => by have := cnt_two hz hy (Ne.symm hne) hp ht; omega
theorem cnt_more {f : Nat → Int} {p : Nat} : ∀ {N}, (∀ s, s < N → s ≠ p → f s = 0) → cntNZ f N ≤ 1 ∧ (N ≤ p → cntNZ f N = 0)
 | 0, _ => ⟨by simp [cntNZ], fun _ => rfl⟩
 | N + 1, h => by
  have ih := cnt_more (f := f) (p := p) (N := N) (fun s hs => h s (by omega))
  rw [cntNZ]
  by_cases e : N = p
  ·subst e; have := ih.2 (Nat.le_refl _); constructor
   ·split <;> omega
   ·omega
  ·rw [if_pos (h N (by omega) e)]; exact ⟨by omega, fun h' => by have := ih.2 (by omega); omega⟩
theorem cnt_other {f : Nat → Int} {p N : Nat} (h : cntNZ f N ≠ 1) (hz : f p ≠ 0) (hp : p < N) : ∃ s, s < N ∧ s ≠ p ∧ f s ≠ 0 := by
 refine Classical.byContradiction fun hc => h ?_
 have := (cnt_more (f := f) (p := p) (N := N) (fun s hs hne => Classical.byContradiction fun hy => hc ⟨s, hs, hne, hy⟩)).1
 have := cnt_pos hz hp
 omega
theorem getD_set {α : Type} (l : List α) (i t : Nat) (v d : α) (h : i < l.length) : (l.set i v).getD t d = if t = i then v else l.getD t d := by
 simp only [List.getD_eq_getElem?_getD]
 by_cases e : t = i
 ·subst e; rw [List.getElem?_set_self h, if_pos rfl]; rfl
 ·rw [List.getElem?_set_ne (Ne.symm e), if_neg e]
@[simp] theorem swp_length (ls : List Ln) (i j : Nat) : (swp ls i j).length = ls.length := by simp [swp]
theorem swp_getD (ls : List Ln) {i j : Nat} (hi : i < ls.length) (hj : j < ls.length) (t : Nat) : (swp ls i j).getD t default = if t = j then ls.getD i default else if t = i then ls.getD j default else ls.getD t default := by
 unfold swp
 rw [getD_set _ _ _ _ _ (by simpa using hj), getD_set _ _ _ _ _ hi]
theorem getD_get {α : Type} {l : List α} {i : Nat} (h : i < l.length) (d : α) : l.getD i d = l[i] := by simp [List.getD_eq_getElem?_getD, List.getElem?_eq_getElem h]
theorem swp_step {d : Nat} (ls : List Ln) {i j : Nat} (hi : i < ls.length) (hj : j < ls.length) (di : d ≤ i) (dj : d ≤ j) : Step d ls (swp ls i j) := by
 have := Step.swap ls i j hi hj di dj
 unfold swp
 rw [getD_get hi, getD_get hj]; exact this
theorem cols_swp (c d : Nat) {ls : List Ln} {p N : Nat} (hN : ls.length = d + N) (hp : p < N) : cols c d (swp ls d (d + p)) = swf (cols c d ls) p := by
 funext t
 unfold cols swf
 rw [swp_getD ls (by omega) (by omega)]
 by_cases e : t = p
 ·subst e; simp
 ·rw [if_neg (by omega), if_neg e]
  by_cases e2 : t = 0
  ·subst e2; simp
  ·rw [if_neg (by omega), if_neg e2]
theorem redTo_getD (c d j : Nat) {ls : List Ln} {i : Nat} (h : i < ls.length) : (redTo c d j ls).getD i default = if d < i ∧ i ≤ d + j then redL c (ls.getD d default) (ls.getD i default) else ls.getD i default := by
 rw [getD_get (by simpa using h), redTo_get c d j ls i h, getD_get h]
theorem redTo_stepD (c d j : Nat) (ls : List Ln) (h : d + j + 1 < ls.length) :
  redTo c d (j + 1) ls = (redTo c d j ls).set (d + (j + 1)) (lsub ((cols c d (redTo c d j ls) (j + 1)).fdiv (cols c d (redTo c d j ls) 0)) ((redTo c d j ls).getD (d + (j + 1)) default) ((redTo c d j ls).getD (d + 0) default)) := by
 rw [redTo_step c d j ls h]
 unfold cols
 rw [getD_get (show d + (j + 1) < (redTo c d j ls).length by simp; omega), getD_get (show d + 0 < (redTo c d j ls).length by simp; omega)]
 rfl
theorem Dim.getD {n m : Nat} {ls : List Ln} (h : Dim n m ls) {i : Nat} (hi : i < ls.length) : (ls.getD i default).1.length = n ∧ (ls.getD i default).2.length = m := by rw [getD_get hi]; exact h.get hi
theorem cols_red (c d : Nat) {ls : List Ln} {n m N : Nat} (hN : ls.length = d + N) (hd : Dim n m ls) {t : Nat} (ht : t < N) : cols c d (redTo c d (N - 1) ls) t = rdf (cols c d ls) t := by
 unfold cols rdf
 rw [redTo_getD c d _ (by omega)]
 by_cases e : t = 0
 ·subst e; simp
 ·rw [if_neg e, if_pos (by omega)]
  unfold redL
  rw [col_lsub _ _ (by have := hd.getD (i := d) (by omega); have := hd.getD (i := d + t) (by omega); omega)]
  rfl
def GG (c d N k : Nat) (ls : List Ln) : Prop :=
 (∀ t, t < N → All (fun z => z.natAbs < 2 ^ k) (ls.getD (d + t) default)) ∨
 (SS (cols c d ls) N ∧ ∀ t, t < N → All (fun z => z.natAbs * prd (cols c d ls) N ≤ 2 ^ (k * (N + 2) + 1)) (ls.getD (d + t) default))
theorem powE (k N : Nat) : 2 ^ (k * (N + 2) + 1) = 2 ^ k * 2 ^ k * 2 ^ (k * N) * 2 := by
 rw [show k * (N + 2) + 1 = k + k + k * N + 1 by grind, Nat.pow_succ, Nat.pow_add, Nat.pow_add]
theorem GG.lt {c d N k : Nat} {ls : List Ln} (h : GG c d N k ls) : ∀ t, t < N → All (fun z => z.natAbs < 2 ^ (k * (N + 2) + 2)) (ls.getD (d + t) default) := by
 intro t ht
 have e : 2 ^ (k * (N + 2) + 2) = 2 ^ (k * (N + 2) + 1) * 2 := Nat.pow_succ _ _
 have p0 : 0 < 2 ^ (k * (N + 2) + 1) := Nat.pow_pos (by omega)
 rcases h with h | ⟨_, h⟩
 ·refine (h t ht).mono fun z hz => Nat.lt_of_lt_of_le hz ?_
  exact Nat.pow_le_pow_right (by omega) (by have : k * (N + 2) = k * N + k * 2 := Nat.mul_add _ _ _; omega)
 ·refine (h t ht).mono fun z hz => ?_
  have := Nat.le_mul_of_pos_right z.natAbs (prd_pos (cols c d ls) N)
  omega
theorem swp_all {Q : Int → Prop} {d : Nat} {ls : List Ln} {p N : Nat} (hN : ls.length = d + N) (hp : p < N) (h : ∀ t, t < N → All Q (ls.getD (d + t) default)) : ∀ t, t < N → All Q ((swp ls d (d + p)).getD (d + t) default) := by
 intro t ht
 rw [swp_getD ls (by omega) (by omega)]
 split
 ·exact h 0 (by omega)
 ·split
  ·exact h p hp
  ·exact h t ht
theorem swp_best {c d : Nat} {ls : List Ln} {p N : Nat} (hN : ls.length = d + N) (hp : p < N) (hm : ∀ t, t < N → cols c d ls t ≠ 0 → (cols c d ls p).natAbs ≤ (cols c d ls t).natAbs) :
  ∀ t, t < N → cols c d (swp ls d (d + p)) t ≠ 0 → (cols c d (swp ls d (d + p)) 0).natAbs ≤ (cols c d (swp ls d (d + p)) t).natAbs := by
 rw [cols_swp c d hN hp]
 have e0 : swf (cols c d ls) p 0 = cols c d ls p := by
  unfold swf; by_cases e : 0 = p
  ·subst e; rw [if_pos rfl]
  ·rw [if_neg e, if_pos rfl]
 rw [e0]
 intro t ht hz
 unfold swf at *
 split at hz
 ·rw [if_pos ‹_›]; exact hm 0 (by omega) hz
 ·rw [if_neg ‹_›]
  split at hz
  ·rw [if_pos ‹_›]; exact Nat.le_refl _
  ·rw [if_neg ‹_›]; exact hm t ht hz
theorem swp_zero {c d : Nat} {ls : List Ln} {p N : Nat} (hN : ls.length = d + N) (hp : p < N) : cols c d (swp ls d (d + p)) 0 = cols c d ls p := by
 rw [cols_swp c d hN hp]
 unfold swf; by_cases e : 0 = p
 ·subst e; rw [if_pos rfl]
 ·rw [if_neg e, if_pos rfl]
theorem GG.swp {c d N k p : Nat} {ls : List Ln} (h : GG c d N k ls) (hN : ls.length = d + N) (hp : p < N) : GG c d N k (swp ls d (d + p)) := by
 rcases h with h | ⟨hS, h⟩
 ·exact .inl (swp_all hN hp h)
 ·right
  rw [cols_swp c d hN hp, prd_swf _ hp]
  refine ⟨?_, swp_all hN hp h⟩
  rcases hS with hS | hS
  ·left; intro t ht; unfold swf; split
   ·exact hS 0 (by omega)
   ·split
    ·exact hS p hp
    ·exact hS t ht
  ·right; intro t ht; unfold swf; split
   ·exact hS 0 (by omega)
   ·split
    ·exact hS p hp
    ·exact hS t ht
theorem GG.red {c d N k n m : Nat} {ls : List Ln} (h : GG c d N k ls) (hN : ls.length = d + N) (hd : Dim n m ls) (hz : cols c d ls 0 ≠ 0) (hm : ∀ t, t < N → cols c d ls t ≠ 0 → (cols c d ls 0).natAbs ≤ (cols c d ls t).natAbs) :
  GG c d N k (redTo c d (N - 1) ls) := by
 have hc : ∀ t, t < N → cols c d (redTo c d (N - 1) ls) t = rdf (cols c d ls) t := fun t ht => cols_red c d hN hd ht
 have hle := rdf_le (cols c d ls) hz hm
 right
 rw [prd_congr hc]
 constructor
 ·rcases rdf_ss (cols c d ls) N hz with h | h
  ·exact .inl fun t ht => by rw [hc t ht]; exact h t ht
  ·exact .inr fun t ht => by rw [hc t ht]; exact h t ht
 intro t ht
 rw [redTo_getD c d _ (by omega)]
 have q0 : 0 < 2 ^ k := Nat.pow_pos (by omega)
 have q1 : 0 < 2 ^ (k * N) := Nat.pow_pos (by omega)
 rcases h with h | ⟨hS, h⟩
 ·have hP : prd (rdf (cols c d ls)) N ≤ 2 ^ (k * N) := prd_pow k fun s hs => Nat.lt_of_le_of_lt (hle s hs) ((h s hs).col (Q := fun z => z.natAbs < 2 ^ k) (by simpa using q0) c)
  have A0 := h 0 (by omega)
  have At := h t ht
  have ct := At.col (Q := fun z => z.natAbs < 2 ^ k) (by simpa using q0) c
  rw [powE]
  have key : ∀ z : Nat, z ≤ 2 ^ k + 2 ^ k * 2 ^ k → z * prd (rdf (cols c d ls)) N ≤ 2 ^ k * 2 ^ k * 2 ^ (k * N) * 2 := by
   intro z hz
   have h1 : 2 ^ k ≤ 2 ^ k * 2 ^ k := Nat.le_mul_of_pos_right _ q0
   have h2 : z ≤ 2 ^ k * 2 ^ k * 2 := by omega
   calc z * prd (rdf (cols c d ls)) N ≤ (2 ^ k * 2 ^ k * 2) * 2 ^ (k * N) := Nat.mul_le_mul h2 hP
    _ = _ := by grind
  split
  ·have hcd : (ls.getD (d + t) default) = (ls.getD (d + t) default) := rfl
   unfold redL
   refine All.lsub _ (Q := fun z => z.natAbs < 2 ^ k) (R := fun z => z.natAbs < 2 ^ k) ?_ ?_ At A0
   ·intro x hx; exact key _ (by have := Nat.zero_le (2 ^ k * 2 ^ k); omega)
   ·intro x y hx hy
    refine key _ ?_
    have h1 : (col c (ls.getD (d + t) default)).fdiv (col c (ls.getD d default)) = (cols c d ls t).fdiv (cols c d ls 0) := rfl
    rw [h1]
    have h2 := fdiv_abs (cols c d ls t) hz
    have h3 : ((cols c d ls t).fdiv (cols c d ls 0) * y).natAbs ≤ 2 ^ k * 2 ^ k := by
     rw [Int.natAbs_mul]
     refine Nat.mul_le_mul ?_ (Nat.le_of_lt hy)
     have : (cols c d ls t).natAbs < 2 ^ k := ct
     omega
    omega
  ·exact At.mono fun z hz => key _ (by have := Nat.zero_le (2 ^ k * 2 ^ k); omega)
 ·have A0 := h 0 (by omega)
  have At := h t ht
  have hPm : prd (rdf (cols c d ls)) N ≤ prd (cols c d ls) N := prd_mono hle
  split
  ·rename_i hdt
   have hg := rdf_gain (cols c d ls) hz hm hS ht (by omega)
   unfold redL
   refine All.lsub _ (Q := fun z => z.natAbs * prd (cols c d ls) N ≤ 2 ^ (k * (N + 2) + 1)) (R := fun z => z.natAbs * prd (cols c d ls) N ≤ 2 ^ (k * (N + 2) + 1)) ?_ ?_ At A0
   ·intro x hx; exact Nat.le_trans (Nat.mul_le_mul_left _ hPm) hx
   ·intro x y hx hy
    have h1 : (col c (ls.getD (d + t) default)).fdiv (col c (ls.getD d default)) = (cols c d ls t).fdiv (cols c d ls 0) := rfl
    rw [h1]
    generalize (cols c d ls t).fdiv (cols c d ls 0) = q at *
    have h2 : (x - q * y).natAbs ≤ max x.natAbs y.natAbs * (q.natAbs + 1) := by
     have e1 : (q * y).natAbs ≤ q.natAbs * max x.natAbs y.natAbs := by rw [Int.natAbs_mul]; exact Nat.mul_le_mul_left _ (by omega)
     have e2 : max x.natAbs y.natAbs * (q.natAbs + 1) = q.natAbs * max x.natAbs y.natAbs + max x.natAbs y.natAbs := by grind
     omega
    calc (x - q * y).natAbs * prd (rdf (cols c d ls)) N ≤ max x.natAbs y.natAbs * (q.natAbs + 1) * prd (rdf (cols c d ls)) N := Nat.mul_le_mul_right _ h2
     _ = max x.natAbs y.natAbs * (prd (rdf (cols c d ls)) N * (q.natAbs + 1)) := by grind
     _ ≤ max x.natAbs y.natAbs * prd (cols c d ls) N := Nat.mul_le_mul_left _ hg
     _ ≤ _ := by
      rcases Nat.le_total x.natAbs y.natAbs with hxy | hxy
      ·rw [Nat.max_eq_right hxy]; exact hy
      ·rw [Nat.max_eq_left hxy]; exact hx
  ·exact At.mono fun z hz => Nat.le_trans (Nat.mul_le_mul_left _ hPm) hz
structure SwR (c d N k : Nat) (ls ls' : List Ln) (r : Bool) : Prop where
 ops : Ops d ls ls'
 small : ∀ t, t < N → All (fun z => z.natAbs < 2 ^ (k * (N + 2) + 2)) (ls'.getD (d + t) default)
 no : r = false → ∀ t, t < N → cols c d ls' t = 0
 yes : r = true → 0 < N ∧ cols c d ls' 0 ≠ 0 ∧ ∀ t, 0 < t → t < N → cols c d ls' t = 0
theorem swr_no {c d N k : Nat} {ls ls1 : List Ln} (ho : Ops d ls ls1) (hG : GG c d N k ls1) (h : ∀ t, t < N → cols c d ls1 t = 0) : SwR c d N k ls ls1 false :=
 ⟨ho, hG.lt, fun _ => h, fun h => by cases h⟩
theorem sw_less {c d N n m p : Nat} {ls : List Ln} (hN : ls.length = d + N) (hd : Dim n m ls) (hp : p < N) (hz : cols c d ls p ≠ 0) (hm : ∀ t, t < N → cols c d ls t ≠ 0 → (cols c d ls p).natAbs ≤ (cols c d ls t).natAbs) (hcnt : cntNZ (cols c d ls) N ≠ 1) :
  sm (cols c d (redTo c d (N - 1) (swp ls d (d + p)))) N < sm (cols c d ls) N := by
 have hd2 : Dim n m (swp ls d (d + p)) := hd.step (swp_step (d := d) ls (by omega) (by omega) (by omega) (by omega))
 have hN2 : (swp ls d (d + p)).length = d + N := by simpa using hN
 rw [sm_congr (fun t ht => cols_red c d hN2 hd2 ht), ← sm_swf (cols c d ls) hp, ← cols_swp c d hN hp]
 obtain ⟨s, hs, hsp, hsz⟩ := cnt_other hcnt hz hp
 have h0 : cols c d (swp ls d (d + p)) 0 ≠ 0 := by rw [swp_zero hN hp]; exact hz
 by_cases e : s = 0
 ·subst e
  refine rdf_lt _ h0 (swp_best hN hp hm) hp (by omega) ?_
  rw [cols_swp c d hN hp]; unfold swf; rw [if_pos rfl]; exact hsz
 ·refine rdf_lt _ h0 (swp_best hN hp hm) hs e ?_
  rw [cols_swp c d hN hp]; unfold swf; rw [if_neg hsp, if_neg e]; exact hsz
end Go.Proofs.YtedlgnoiojcjaaaGreatDoor
