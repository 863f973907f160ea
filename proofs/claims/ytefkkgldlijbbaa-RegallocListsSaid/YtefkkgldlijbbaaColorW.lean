/- regalloc.Color: what it returns for every graph of at most 1000 lists of at most 1500 entries, and every number of colours: the colours of the law of colouring. -/
import Derived.Test.YtefkkgldlijbbaaReverse
import Derived.Test.YtefkkgldlijbbaaWMore
namespace Go.Proofs.Ytefkkgldlijbbaa
open Go.RowKit Go.Maps Go.Proofs.YtefkkgldlijbbaaW.PrintWords Go.Proofs.YtefkkgldlijbbaaW.PrintMore

/-- Two nodes of a graph of lists are neighbours. -/
def adjE (E : List (List Int)) (a b : Nat) : Bool := a != b && ((E.getD a []).contains (b : Int) || (E.getD b []).contains (a : Int))
theorem adjE_symm (E : List (List Int)) (a b : Nat) : adjE E a b = adjE E b a := by
  unfold adjE
  rw [Bool.or_comm]
  congr 1
  rw [Bool.eq_iff_iff]; simp; omega
theorem adjE_irr (E : List (List Int)) (a : Nat) : adjE E a a = false := by simp [adjE]

theorem rowS_iff (n i : Nat) (S : Nat → Int → Bool) (a : Nat) (x : Int) : ∀ l : List Int, rowS n i S l a x = true ↔ S a x = true ∨ ∃ k ∈ l, (0 ≤ k ∧ k < n ∧ k ≠ i) ∧ ((a = i ∧ x = k) ∨ ((a : Int) = k ∧ x = (i : Int))) := by
  intro l
  induction l generalizing S with
  | nil => simp [rowS]
  | cons q l ih =>
    show rowS n i (stepS n i S q) l a x = true ↔ _
    rw [ih]
    have h : stepS n i S q a x = true ↔ S a x = true ∨ ((0 ≤ q ∧ q < n ∧ q ≠ i) ∧ ((a = i ∧ x = q) ∨ ((a : Int) = q ∧ x = (i : Int)))) := by
      unfold stepS
      by_cases hc : 0 ≤ q ∧ q < n ∧ q ≠ i
      · rw [if_pos hc]
        simp only [Bool.or_eq_true, Bool.and_eq_true, beq_iff_eq, hc, true_and, ne_eq, not_false_eq_true, and_true]
        constructor
        · rintro ((h | h) | h)
          · exact .inr (.inl h)
          · exact .inr (.inr h)
          · exact .inl h
        · rintro (h | h | h)
          · exact .inr h
          · exact .inl (.inl h)
          · exact .inl (.inr h)
      · rw [if_neg hc]
        constructor
        · exact fun h => .inl h
        · rintro (h | h)
          · exact h
          · exact absurd h.1 hc
    rw [h]
    simp only [List.mem_cons, exists_eq_or_imp]
    constructor
    · rintro ((h | h) | h)
      · exact .inl h
      · exact .inr (.inl h)
      · exact .inr (.inr h)
    · rintro (h | h | h)
      · exact .inl (.inl h)
      · exact .inl (.inr h)
      · exact .inr h
theorem allS_iff (E : List (List Int)) (a : Nat) (x : Int) : ∀ i, allS E i a x = true ↔ ∃ j, j < i ∧ ∃ k ∈ E.getD j [], (0 ≤ k ∧ k < E.length ∧ k ≠ j) ∧ ((a = j ∧ x = k) ∨ ((a : Int) = k ∧ x = (j : Int)))
  | 0 => by simp [allS]
  | i + 1 => by
    show rowS E.length i (allS E i) (E.getD i []) a x = true ↔ _
    rw [rowS_iff, allS_iff E a x i]
    constructor
    · rintro (⟨j, h1, h2⟩ | h)
      · exact ⟨j, by omega, h2⟩
      · exact ⟨i, by omega, h⟩
    · rintro ⟨j, h1, h2⟩
      by_cases e : j = i
      · subst e; exact .inr h2
      · exact .inl ⟨j, by omega, h2⟩
theorem allS_inside (E : List (List Int)) (a : Nat) (_ha : a < E.length) (x : Int) (h : allS E E.length a x = true) : 0 ≤ x ∧ x < E.length := by
  obtain ⟨j, h1, k, _, ⟨h2, h3, _⟩, h5⟩ := (allS_iff E a x _).1 h
  omega
theorem allS_adj (E : List (List Int)) (a b : Nat) (ha : a < E.length) (hb : b < E.length) : allS E E.length a (b : Int) = adjE E a b := by
  rw [Bool.eq_iff_iff, allS_iff]
  unfold adjE
  simp only [Bool.and_eq_true, bne_iff_ne, ne_eq, Bool.or_eq_true, List.contains_iff_mem]
  constructor
  · rintro ⟨j, h1, k, hk, ⟨h2, h3, h4⟩, ⟨rfl, rfl⟩ | ⟨h5, h6⟩⟩
    · exact ⟨by omega, .inl hk⟩
    · have e1 : b = j := by omega
      subst e1
      subst h5
      exact ⟨by omega, .inr hk⟩
  · rintro ⟨hne, h | h⟩
    · exact ⟨a, ha, b, h, by omega, .inl ⟨rfl, rfl⟩⟩
    · exact ⟨b, hb, a, h, by omega, .inr ⟨rfl, rfl⟩⟩

/-- What Color returns. -/
def colorE (E : List (List Int)) (c : Int) : List Int := ColorLaw.color E.length (adjE E) c.toNat

/-- The colours, as a function. -/
def oF (o : List Int) : Nat → Int := fun a => o.getD a (-1)

/-- While colours are given: out tells them, v is the row of the nodes still to come. -/
structure CS (w wr : World) (g n ob : Nat) (S : Nat → Int → Bool) (out : Nat → Int) (v : Value) (l : List Nat) : Prop where
  graph : Graph wr g n 4000000 S
  row : wr.heap[ob]? = some (.cells (rowF (fun a => .int .i64 (out a)) n) 3 (0, 0))
  ord : wr.ownsRow (ob + 1) 3 1 v n (nums .i64 (l.map fun a : Nat => (a : Int)))
  below : Below w.heap.size w wr

theorem Graph.grown {w w' : World} {g n m : Nat} {S : Nat → Int → Bool} (h : Graph w g n m S) {row : Option Nat} (hg : w.grownBy w' row) (hr : ∀ k, row = some k → g + n < k) : Graph w' g n m S :=
  ⟨(hg.block _ (Array.getElem?_eq_some_iff.1 h.row).1 (fun e => by have := hr _ e.symm; omega)).trans h.row, fun a ha => (h.sets a ha).kept hg (fun e => by have := hr _ e.symm; omega), h.inside, h.sym, h.irr⟩
theorem CS.grown {w wr wr' : World} {g n ob : Nat} {S : Nat → Int → Bool} {out : Nat → Int} {v : Value} {l : List Nat} (h : CS w wr g n ob S out v l) (hgo : g + n < ob) (hwo : w.heap.size ≤ ob) {row : Option Nat} (hg : wr.grownBy wr' row) (hr : ∀ k, row = some k → ob < k) (hv : v.ownBlock = none ∨ v.ownBlock ≠ row) : CS w wr' g n ob S out v l := by
  have hob : ob < wr.heap.size := (Array.getElem?_eq_some_iff.1 h.row).1
  exact ⟨h.graph.grown hg (fun k hk => by have := hr k hk; omega), (hg.block _ hob (fun e => by have := hr _ e.symm; omega)).trans h.row, h.ord.kept hg hv, h.below.grown hg (by omega) (fun k hk => by have := hr k hk; omega)⟩
theorem CS.paint {w wr : World} {g n ob : Nat} {S : Nat → Int → Bool} {out : Nat → Int} {v : Value} {l : List Nat} (h : CS w wr g n ob S out v l) (hgo : g + n < ob) (hwo : w.heap.size ≤ ob) (k : Nat) (x : Int) :
    CS w (wr.setCell ⟨ob, k, none⟩ (.int .i64 x)) g n ob S (fun a => if a = k then x else out a) v l := by
  have hg : wr.grownBy (wr.setCell ⟨ob, k, none⟩ (.int .i64 x)) (some ob) := ⟨rfl, rfl, rfl, by simp [World.setCell], fun j _ hj => Below.heap_setCell _ _ _ _ (fun e => hj (by rw [e]))⟩
  refine ⟨h.graph.grown hg (fun k hk => by cases hk; omega), ?_, own_setCell h.ord (fun e => by have h_ : ob + 1 ≤ ob := own_base h.ord _ e.symm; omega) _, h.below.setCell (p := ⟨ob, k, none⟩) hwo _⟩
  rw [heap_set_row _ h.row]
  congr 2
  exact rowF_congr (fun i _ => by split <;> rfl)

/-- Is the colour q taken by one of node i's neighbours that have come? -/
def takenB (n : Nat) (T : Int → Bool) (left : Int → Bool) (out : Nat → Int) (q : Nat) : Bool := (List.range n).any fun y => T (y : Nat) && !left (y : Nat) && out y == (q : Int)
theorem takenB_start {n : Nat} {T left : Int → Bool} {out : Nat → Int} {q : Nat} (hn : n ≤ 1000) (h : ∀ x, (Lit.int .i64 x).wf = true → left x = T x) : takenB n T left out q = false := by
  unfold takenB
  rw [List.any_eq_false]
  intro y hy
  have := List.mem_range.1 hy
  rw [h _ (wfI (by omega) (by omega))]
  simp
theorem takenB_step {n : Nat} {T left : Int → Bool} {out : Nat → Int} {q x : Nat} (hx : x < n) (hT : T x = true) (hl : left x = true) :
    takenB n T (fun z => left z && !(z == (x : Int))) out q = (takenB n T left out q || out x == (q : Int)) := by
  unfold takenB
  rw [Bool.eq_iff_iff]
  simp only [List.any_eq_true, List.mem_range, Bool.or_eq_true, Bool.and_eq_true, Bool.not_eq_true', beq_iff_eq]
  constructor
  · rintro ⟨y, hy, ⟨h1, h2⟩, h3⟩
    by_cases e : y = x
    · subst e; exact .inr h3
    · refine .inl ⟨y, hy, ⟨h1, ?_⟩, h3⟩
      have : ((y : Int) == (x : Int)) = false := by simp; omega
      rw [this] at h2
      simpa using h2
  · rintro (⟨y, hy, ⟨h1, h2⟩, h3⟩ | h)
    · exact ⟨y, hy, ⟨h1, by rw [h2]; rfl⟩, h3⟩
    · exact ⟨x, hx, ⟨hT, by simp⟩, h⟩
theorem takenB_done {n i q : Nat} {S : Nat → Int → Bool} {left : Int → Bool} {o : List Int} (hn : n ≤ 1000) (h : ∀ x, (Lit.int .i64 x).wf = true → left x = false) :
    takenB n (S i) left (oF o) q = !ColorLaw.free n (adjN S) o i q := by
  unfold takenB ColorLaw.free oF
  rw [Bool.not_not, Bool.eq_iff_iff]
  simp only [List.any_eq_true, List.mem_range, Bool.and_eq_true, Bool.not_eq_true', beq_iff_eq]
  constructor
  · rintro ⟨y, hy, ⟨h1, _⟩, h3⟩
    exact ⟨y, hy, h1, h3⟩
  · rintro ⟨y, hy, h1, h3⟩
    exact ⟨y, hy, ⟨h1, h _ (wfI (by omega) (by omega))⟩, h3⟩

theorem colorStep_hit {n : Nat} {A : Nat → Nat → Bool} {c : Nat} {o : List Int} {i q : Nat} (hq : q < c) (h0 : ∀ p, p < q → ColorLaw.free n A o i p = false) (h1 : ColorLaw.free n A o i q = true) : ColorLaw.colorStep n A c o i = o.set i (q : Int) := by
  unfold ColorLaw.colorStep
  rw [(List.find?_range_eq_some).2 ⟨h1, List.mem_range.2 hq, fun p hp => by rw [h0 p hp]; rfl⟩]
theorem colorStep_miss {n : Nat} {A : Nat → Nat → Bool} {c : Nat} {o : List Int} {i : Nat} (h0 : ∀ p, p < c → ColorLaw.free n A o i p = false) : ColorLaw.colorStep n A c o i = o := by
  unfold ColorLaw.colorStep
  have : (List.range c).find? (ColorLaw.free n A o i) = none := List.find?_eq_none.2 (fun p hp => by rw [h0 p (List.mem_range.1 hp)]; simp)
  rw [this]
theorem colors_take {n : Nat} {A : Nat → Nat → Bool} {c : Nat} {l : List Nat} {o : List Int} {k : Nat} (hk : k < l.length) : ColorLaw.colors n A c (l.take (k + 1)) o = ColorLaw.colorStep n A c (ColorLaw.colors n A c (l.take k) o) (l.getD k 0) := by
  unfold ColorLaw.colors
  rw [List.take_succ_eq_append_getElem hk, List.foldl_append]
  simp [hk]

/-- A row told by a function is a row of the call's own. -/
theorem own_of_rowF {w : World} {base ob n : Nat} {f : Nat → Int} {xs : List Int} (h : w.heap[ob]? = some (.cells (rowF (fun a => .int .i64 (f a)) n) 3 (0, 0))) (hb : base ≤ ob) (hn : n ≤ 1000000) (hx : xs.length = n) (hf : ∀ a, a < n → f a = xs.getD a (-1)) :
    Kd.R (Kd.int .i64) 3 w base (fun _ => True) (.slice (some ⟨ob, 0, none⟩) n n) xs := by
  subst hx
  refine Kd.R_of_own ⟨by simp [encs], .inr ⟨ob, xs.length, _, rfl, hb, h, Nat.le_refl _, by unfold maxLen; omega, by rw [rowF_size, Nat.mul_one], ?_⟩⟩ (fun _ _ => trivial)
  rw [List.take_of_length_le (by rw [Array.length_toList, rowF_size]; omega)]
  apply List.ext_getElem?
  intro i
  by_cases hi : i < xs.length
  · have := rowF_get (f := fun a => Value.int .i64 (f a)) hi
    rw [Array.getElem?_toList, this, hf i hi]
    simp [encs, hi]
  · rw [List.getElem?_eq_none (by rw [Array.length_toList, rowF_size]; omega), List.getElem?_eq_none (by simp [encs]; omega)]

theorem color_of_l {E : List (List Int)} {a1 : Int} {cN : Nat} {l : List Nat} {o0 : List Int} (hc : a1.toNat = cN) (hll : l.length = E.length) (hl : l = (ColorLaw.order E.length (adjN (allS E E.length)) cN E.length).reverse) (ho : o0 = List.replicate E.length (-1 : Int)) :
    colorE E a1 = ColorLaw.colors E.length (adjN (allS E E.length)) cN (l.take E.length) o0 := by
  have ht : l.take E.length = l := by rw [← hll, List.take_length]
  rw [ht, ho, hl]
  unfold colorE
  rw [hc, ColorLaw.color_congr (B := adjN (allS E E.length)) (fun a b ha hb => (allS_adj E a b ha hb).symm)]
  rfl

end Go.Proofs.Ytefkkgldlijbbaa
