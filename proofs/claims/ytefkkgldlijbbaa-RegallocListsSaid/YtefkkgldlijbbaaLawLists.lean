/- The law RegallocLists, walked: the order and the repetition of neighbours, and whether an edge is listed at both ends, have no effect on the colours. -/
import Derived.Test.YtefkkgldlijbbaaOpen
import Derived.Test.YtefkkgldlijbbaaPureA
import Derived.Deep.QuietTactic
import Derived.BigQuiet
namespace Go.Proofs.Ytefkkgldlijbbaa
open Go.RowKit Go.Maps Go.Proofs.YtefkkgldlijbbaaW.PrintWords Go.Proofs.Ytefkkgldlijbbaa.Open Go.Proofs.Ytefkkgldlijbbaa.H

/-- A row of rows of the call's own, each row in a block for itself. -/
structure OwnRows (w : World) (base B n : Nat) (v : Nat → Value) (o : Nat → List Int) : Prop where
  row : w.heap[B]? = some (.cells (rowF v n) 26 (0, 0))
  own : ∀ a, a < n → w.ownsRow base 3 1 (v a) (o a).length (nums .i64 (o a))
  apart : ∀ a b, a < n → b < n → a ≠ b → (v a).ownBlock = none ∨ (v a).ownBlock ≠ (v b).ownBlock
  lt : B < base

theorem OwnRows.append {w w1 : World} {base B n : Nat} {v : Nat → Value} {o : Nat → List Int} (h : OwnRows w base B n v o) {a : Nat} (ha : a < n) {v1 : Value} {ys : List Int} (hg : w.grownBy w1 (v a).ownBlock)
    (ho : w1.ownsRow base 3 1 v1 (o a ++ ys).length (nums .i64 (o a ++ ys))) (hat : v1.ownBlock = (v a).ownBlock ∨ ∃ b, v1.ownBlock = some b ∧ w.heap.size ≤ b) :
    OwnRows (w1.setCell ⟨B, a, none⟩ v1) base B n (fun i => if i = a then v1 else v i) (fun i => if i = a then o i ++ ys else o i) := by
  have hB : B < w.heap.size := (Array.getElem?_eq_some_iff.1 h.row).1
  have hne : some B ≠ (v a).ownBlock := fun e => by have := own_base (h.own a ha) _ e.symm; have := h.lt; omega
  have hr : w1.heap[B]? = some (.cells (rowF v n) 26 (0, 0)) := (hg.block _ hB hne).trans h.row
  have hbl : ∀ {u : Value} {m : Nat} {xs : List Value}, w1.ownsRow base 3 1 u m xs → (w1.setCell ⟨B, a, none⟩ v1).ownsRow base 3 1 u m xs := fun hu => own_setCell hu (fun e => by have h_ : base ≤ B := own_base hu _ e.symm; have := h.lt; omega) _
  refine ⟨?_, ?_, ?_, h.lt⟩
  · rw [heap_set_row _ hr]
  · intro i hi
    by_cases e : i = a
    · subst e; simp only [if_pos]; exact hbl ho
    · simp only [if_neg e]
      exact hbl ((h.own i hi).kept hg (h.apart i a hi ha e))
  · intro i j hi hj hij
    by_cases e : i = a
    · subst e
      simp only [if_pos, if_neg (Ne.symm hij)]
      rcases hat with hat | ⟨b, hb, hlt⟩
      · rw [hat]; exact h.apart i j hi hj hij
      · refine .inr (fun e1 => ?_)
        rw [hb] at e1
        have := own_lt (h.own j hj) _ e1.symm
        omega
    · simp only [if_neg e]
      by_cases e2 : j = a
      · subst e2
        simp only [if_pos]
        rcases hat with hat | ⟨b, hb, hlt⟩
        · rw [hat]; exact h.apart i j hi hj hij
        · refine .inr (fun e1 => ?_)
          rw [hb] at e1
          have := own_lt (h.own i hi) _ e1
          omega
      · simp only [if_neg e2]; exact h.apart i j hi hj hij

/-- Such a row of rows, read. -/
theorem OwnRows.reads {w : World} {base B n : Nat} {v : Nat → Value} {o : Nat → List Int} (h : OwnRows w base B n v o) (hn : n ≤ 1000000) : Kd.C (Kd.slice 3 (Kd.int .i64)) w (some ⟨B, 0, none⟩) ((List.range n).map o).length ((List.range n).map o) := by
  refine ⟨rfl, by simp; omega, fun _ => ⟨_, rfl, fun j p hp => ?_⟩⟩
  have hj : j < n := by
    rcases Nat.lt_or_ge j n with h1 | h1
    · exact h1
    · rw [List.getElem?_eq_none (by simpa using h1)] at hp; cases hp
  have hpe : p = o j := by simpa [hj] using hp.symm
  subst hpe
  have ho := h.own j hj
  have hr : (Kd.int .i64).R 3 w base (fun _ => True) (v j) (o j) := Kd.R_of_own ho (fun _ _ => trivial)
  obtain ⟨A, c, he, hl, hC⟩ := Kd.R_reads hr
  refine ⟨[v j], rfl, ⟨A, c, by rw [he], hl, hC⟩, fun i u hu => ?_⟩
  match i, hu with
  | 0, hu =>
    have hu' : v j = u := by simpa using hu
    rw [← hu']
    have := (cell_of_row h.row (rowF_get (f := v) hj)).1
    have e : (⟨B, 0, none⟩ : Addr).add (j * 1 + 0) = ⟨B, j, none⟩ := by rw [add_plain]; simp
    rw [show Kd.sz (Kd.slice 3 (Kd.int .i64)) = 1 from rfl, e]
    exact this

/-- What an entry b of node i adds to the other lists. -/
def stepL (n i : Nat) (o : Nat → List Int) (b : Int) : Nat → List Int :=
  if 0 ≤ b ∧ b < n then fun a => if a = b.toNat then (if a = i then o a ++ [b, b] else o a) ++ [(i : Int)] else if a = i then o a ++ [b, b] else o a
  else fun a => if a = i then o a ++ [b, b] else o a
def rowL (n i : Nat) (o : Nat → List Int) (l : List Int) : Nat → List Int := l.foldl (stepL n i) o
def allL (E : List (List Int)) : Nat → Nat → List Int
  | 0 => fun _ => []
  | i + 1 => rowL E.length i (allL E i) (E.getD i []).reverse
theorem rowL_take {n i : Nat} {o : Nat → List Int} {l : List Int} {j : Nat} (h : j < l.length) : rowL n i o (l.take (j + 1)) = stepL n i (rowL n i o (l.take j)) (l.getD j 0) := by
  unfold rowL
  rw [List.take_succ_eq_append_getElem h, List.foldl_append]
  simp [h]
theorem stepL_len {n i : Nat} {o : Nat → List Int} {b : Int} {m : Nat} (h : ∀ a, (o a).length ≤ m) : ∀ a, (stepL n i o b a).length ≤ m + 3 := by
  intro a
  have := h a
  unfold stepL
  by_cases hb : 0 ≤ b ∧ b < n
  · rw [if_pos hb]
    show (if a = b.toNat then (if a = i then o a ++ [b, b] else o a) ++ [(i : Int)] else if a = i then o a ++ [b, b] else o a).length ≤ _
    by_cases e1 : a = b.toNat <;> by_cases e2 : a = i
    · rw [if_pos e1, if_pos e2]; simp; omega
    · rw [if_pos e1, if_neg e2]; simp; omega
    · rw [if_neg e1, if_pos e2]; simp; omega
    · rw [if_neg e1, if_neg e2]; omega
  · rw [if_neg hb]
    by_cases e2 : a = i
    · subst e2; simp; omega
    · simp only [if_neg e2]; omega
theorem stepL_mem {n i : Nat} {o : Nat → List Int} {b : Int} (a : Nat) (x : Int) : x ∈ stepL n i o b a ↔ x ∈ o a ∨ (a = i ∧ x = b) ∨ ((a : Int) = b ∧ b < n ∧ x = (i : Int)) := by
  unfold stepL
  by_cases hb : 0 ≤ b ∧ b < n
  · rw [if_pos hb]
    by_cases e1 : a = b.toNat
    · have e1' : (a : Int) = b := by omega
      by_cases e2 : a = i
      · simp only [if_pos e1, if_pos e2, List.mem_append, List.mem_cons, List.not_mem_nil, or_false, or_self]
        constructor
        · rintro ((h | h) | h)
          · exact .inl h
          · exact .inr (.inl ⟨e2, h⟩)
          · exact .inr (.inr ⟨e1', hb.2, h⟩)
        · rintro (h | h | h)
          · exact .inl (.inl h)
          · exact .inl (.inr h.2)
          · exact .inr h.2.2
      · simp only [if_pos e1, if_neg e2, List.mem_append, List.mem_cons, List.not_mem_nil, or_false]
        constructor
        · rintro (h | h)
          · exact .inl h
          · exact .inr (.inr ⟨e1', hb.2, h⟩)
        · rintro (h | h | h)
          · exact .inl h
          · exact absurd h.1 e2
          · exact .inr h.2.2
    · have e1' : ¬ (a : Int) = b := by omega
      by_cases e2 : a = i
      · simp only [if_neg e1, if_pos e2, List.mem_append, List.mem_cons, List.not_mem_nil, or_false, or_self]
        constructor
        · rintro (h | h)
          · exact .inl h
          · exact .inr (.inl ⟨e2, h⟩)
        · rintro (h | h | h)
          · exact .inl h
          · exact .inr h.2
          · exact absurd h.1 e1'
      · simp only [if_neg e1, if_neg e2]
        constructor
        · exact fun h => .inl h
        · rintro (h | h | h)
          · exact h
          · exact absurd h.1 e2
          · exact absurd h.1 e1'
  · rw [if_neg hb]
    by_cases e2 : a = i
    · simp only [if_pos e2, List.mem_append, List.mem_cons, List.not_mem_nil, or_false, or_self]
      constructor
      · rintro (h | h)
        · exact .inl h
        · exact .inr (.inl ⟨e2, h⟩)
      · rintro (h | h | h)
        · exact .inl h
        · exact .inr h.2
        · omega
    · simp only [if_neg e2]
      constructor
      · exact fun h => .inl h
      · rintro (h | h | h)
        · exact h
        · exact absurd h.1 e2
        · omega
theorem rowL_mem {n i : Nat} (a : Nat) (x : Int) : ∀ (l : List Int) (o : Nat → List Int), x ∈ rowL n i o l a ↔ x ∈ o a ∨ ∃ b ∈ l, (a = i ∧ x = b) ∨ ((a : Int) = b ∧ b < n ∧ x = (i : Int))
  | [], o => by simp [rowL]
  | b :: l, o => by
    show x ∈ rowL n i (stepL n i o b) l a ↔ _
    rw [rowL_mem a x l, stepL_mem]
    simp only [List.mem_cons, exists_eq_or_imp]
    constructor
    · rintro ((h | h) | h)
      · exact .inl h
      · exact .inr (.inl h)
      · exact .inr (.inr h)
    · rintro (h | h | h)
      · exact .inl (.inl h)
      · exact .inl (.inr h)
      · exact .inr h
theorem allL_mem (E : List (List Int)) (a : Nat) (x : Int) : ∀ i, x ∈ allL E i a ↔ ∃ j, j < i ∧ ∃ b ∈ E.getD j [], (a = j ∧ x = b) ∨ ((a : Int) = b ∧ b < E.length ∧ x = (j : Int))
  | 0 => by simp [allL]
  | i + 1 => by
    show x ∈ rowL E.length i (allL E i) (E.getD i []).reverse a ↔ _
    rw [rowL_mem, allL_mem E a x i]
    constructor
    · rintro (⟨j, h1, h2⟩ | ⟨b, h1, h2⟩)
      · exact ⟨j, by omega, h2⟩
      · exact ⟨i, by omega, b, List.mem_reverse.1 h1, h2⟩
    · rintro ⟨j, h1, b, h2, h3⟩
      by_cases e : j = i
      · subst e; exact .inr ⟨b, List.mem_reverse.2 h2, h3⟩
      · exact .inl ⟨j, by omega, b, h2, h3⟩

def otherE (E : List (List Int)) : List (List Int) := (List.range E.length).map (allL E E.length)
theorem otherE_len (E : List (List Int)) : (otherE E).length = E.length := by simp [otherE]
theorem otherE_get {E : List (List Int)} {a : Nat} (h : a < E.length) : (otherE E).getD a [] = allL E E.length a := by
  unfold otherE
  rw [List.getD_eq_getElem?_getD, List.getElem?_map, List.getElem?_range h]; rfl
theorem other_adj {E : List (List Int)} {a b : Nat} (ha : a < E.length) (hb : b < E.length) : adjE (otherE E) a b = adjE E a b := by
  unfold adjE
  rw [otherE_get ha, otherE_get hb]
  congr 1
  rw [Bool.eq_iff_iff]
  simp only [Bool.or_eq_true, List.contains_iff_mem, allL_mem]
  constructor
  · rintro (⟨j, _, c, hc, ⟨rfl, rfl⟩ | ⟨h1, _, h3⟩⟩ | ⟨j, _, c, hc, ⟨rfl, rfl⟩ | ⟨h1, _, h3⟩⟩)
    · exact .inl hc
    · obtain rfl : b = j := by omega
      subst h1; exact .inr hc
    · exact .inr hc
    · obtain rfl : a = j := by omega
      subst h1; exact .inl hc
  · rintro (h | h)
    · exact .inl ⟨a, ha, _, h, .inl ⟨rfl, rfl⟩⟩
    · exact .inr ⟨b, hb, _, h, .inl ⟨rfl, rfl⟩⟩
theorem other_color (E : List (List Int)) (c : Int) : colorE (otherE E) c = colorE E c := by
  unfold colorE
  rw [otherE_len]
  exact ColorLaw.color_congr (fun a b ha hb => other_adj ha hb)


theorem rowL_len {n i : Nat} : ∀ (l : List Int) (o : Nat → List Int) (m : Nat), (∀ a, (o a).length ≤ m) → ∀ a, (rowL n i o l a).length ≤ m + 3 * l.length
  | [], o, m, h, a => h a
  | b :: l, o, m, h, a => by
    have := rowL_len (n := n) (i := i) l (stepL n i o b) (m + 3) (stepL_len h) a
    show (rowL n i (stepL n i o b) l a).length ≤ _
    rw [List.length_cons]; omega
theorem allL_len {E : List (List Int)} (hE : Small E) : ∀ i a, (allL E i a).length ≤ 120 * i
  | 0, _ => by simp [allL]
  | i + 1, a => by
    have := rowL_len (n := E.length) (i := i) (E.getD i []).reverse (allL E i) (120 * i) (allL_len hE i) a
    have h40 := hE.row i
    rw [List.length_reverse] at this
    show (rowL E.length i (allL E i) (E.getD i []).reverse a).length ≤ _
    omega

theorem stepL_len1 {n i : Nat} {o : Nat → List Int} {b : Int} (a : Nat) : (stepL n i o b a).length ≤ (o a).length + (if a = i then 3 else 1) := by
  by_cases e2 : a = i
  · rw [if_pos e2]
    have := stepL_len (n := n) (i := i) (o := fun c => if c = a then o a else []) (b := b) (m := (o a).length) (fun c => by by_cases e : c = a <;> simp [e]) a
    have e : stepL n i (fun c => if c = a then o a else []) b a = stepL n i o b a := by
      unfold stepL
      by_cases hb : 0 ≤ b ∧ b < n
      · rw [if_pos hb, if_pos hb]; simp
      · rw [if_neg hb, if_neg hb]; simp
    rw [e] at this; exact this
  · rw [if_neg e2]
    unfold stepL
    by_cases hb : 0 ≤ b ∧ b < n
    · rw [if_pos hb]
      show (if a = b.toNat then (if a = i then o a ++ [b, b] else o a) ++ [(i : Int)] else if a = i then o a ++ [b, b] else o a).length ≤ _
      rw [if_neg e2]
      by_cases e1 : a = b.toNat
      · rw [if_pos e1]; simp
      · rw [if_neg e1]; omega
    · rw [if_neg hb]
      show (if a = i then o a ++ [b, b] else o a).length ≤ _
      rw [if_neg e2]; omega
theorem rowL_len1 {n i : Nat} (a : Nat) : ∀ (l : List Int) (o : Nat → List Int), (rowL n i o l a).length ≤ (o a).length + l.length * (if a = i then 3 else 1)
  | [], o => by simp [rowL]
  | b :: l, o => by
    have h1 := rowL_len1 (n := n) (i := i) a l (stepL n i o b)
    have h2 := stepL_len1 (n := n) (i := i) (o := o) (b := b) a
    show (rowL n i (stepL n i o b) l a).length ≤ _
    rw [List.length_cons]
    by_cases e : a = i
    · rw [if_pos e] at *; omega
    · rw [if_neg e] at *; omega
theorem allL_len1 {E : List (List Int)} (hE : Small E) (a : Nat) : ∀ i, (allL E i a).length ≤ 40 * i + (if a < i then 80 else 0)
  | 0 => by simp [allL]
  | i + 1 => by
    have h1 := rowL_len1 (n := E.length) (i := i) a (E.getD i []).reverse (allL E i)
    have h40 := hE.row i
    have h2 := allL_len1 hE a i
    rw [List.length_reverse] at h1
    show (rowL E.length i (allL E i) (E.getD i []).reverse a).length ≤ _
    by_cases e : a = i
    · rw [if_pos e] at h1; rw [if_neg (by omega)] at h2; rw [if_pos (by omega)]; omega
    · rw [if_neg e] at h1
      by_cases e3 : a < i
      · rw [if_pos e3] at h2; rw [if_pos (by omega)]; omega
      · rw [if_neg e3] at h2; rw [if_neg (by omega)]; omega

theorem color_calls_n (A0 : Option Addr) (c0 n : Nat) (E : List (List Int)) (a1 : Int) (w : World) (r : List Int) (hr : colorE E a1 = r) (hE0 : E.length = n) (hE : Kd.C (Kd.slice 3 (Kd.int .i64)) w A0 n E) (hc0 : n ≤ c0) (hn : n ≤ 24) (hl : ∀ l ∈ E, l.length ≤ 1500) (ha1 : a1 ≤ 1000) :
    Calls Try.prog 10 #[.slice A0 n c0, .int .i64 a1] w fun e w' => ∃ A c, e = .returned (.slice A n c) ∧ n ≤ c ∧ Hid ((Kd.int .i64).C w' A n r ∧ Below w.heap.size w w') := by
  subst hE0
  refine (color_calls A0 c0 E a1 w hE hc0 (by omega) hl (by omega)).mono ?_
  rintro e w1 ⟨v, rfl, hR, hb⟩
  obtain ⟨A, c, hv, hl1, hC⟩ := Kd.R_reads hR
  have hlen : (colorE E a1).length = E.length := by unfold colorE; rw [ColorLaw.color_len]
  rw [hlen] at hv hl1 hC
  exact ⟨A, c, by rw [hv], hl1, Lib.hid ⟨hr ▸ hC, hb⟩⟩
theorem ints_n (A : Option Addr) (c : Nat) (A1 : Option Addr) (c1 n : Nat) (r : List Int) (w : World) (hn : r.length = n) (hn1 : n ≤ 24) (hC : (Kd.int .i64).C w A n r) (hl : n ≤ c) (hC1 : (Kd.int .i64).C w A1 n r) (hl1 : n ≤ c1) :
    Calls Try.prog 9 #[.slice A n c, .slice A1 n c1] w fun e w' => e = .returned (.bool true) ∧ Drawn0 w w' := by
  subst hn
  exact ontimelaw20_ints.calls 200 A c r A1 c1 r true w hC hl hC1 hl1 (ints_f r (by omega) 200 (by omega))
theorem opens_rows4 : Opens Try.prog 22 (Kd.slice 26 (Kd.slice 3 (Kd.int .i64))) (fun xs => ∀ x ∈ xs, ∀ y ∈ x, (Lit.int .i64 y).wf = true) :=
  opens_slice Try.underlying22 (by kernel_rfl) (opens_slice Try.underlying26 (by kernel_rfl) (opens_int Try.underlying3))
theorem colorE_len1 (E : List (List Int)) (c : Int) : (colorE E c).length = E.length := by unfold colorE; rw [ColorLaw.color_len]
theorem alloc_size1 (w : World) (ob : Obj) : (w.alloc ob).heap.size = w.heap.size + 1 := by simp
theorem OwnRows.alloc {w : World} {base B n : Nat} {v : Nat → Value} {o : Nat → List Int} (h : OwnRows w base B n v o) (ob : Obj) : OwnRows (w.alloc ob) base B n v o :=
  ⟨(Below.heap_alloc w ob _ (Array.getElem?_eq_some_iff.1 h.row).1).trans h.row, fun a ha => (h.own a ha).alloc ob, h.apart, h.lt⟩
theorem OwnRows.drewN {w : World} {base B n : Nat} {v : Nat → Value} {o : Nat → List Int} (h : OwnRows w base B n v o) (q : Nat) : OwnRows (w.drewN q) base B n v o :=
  ⟨h.row, fun a ha => pw_own_below (h.own a ha) (pw_below_drewN (Below.refl _ _) _), h.apart, h.lt⟩
/-- What an append to list a, in memory behind a new object, leaves once it is stored. -/
theorem OwnRows.app {w wr wa : World} {B n a : Nat} {vs : Nat → Value} {o : Nat → List Int} {ys : List Int} {v1 : Value} (h : OwnRows wr (B + 1) B n vs o) (hb : Below w.heap.size w wr) (hwB : w.heap.size ≤ B) (ha : a < n)
    (hown : wa.ownsRow (B + 1) 3 1 v1 (o a ++ ys).length (nums .i64 (o a ++ ys))) (hg : wr.grownBy wa (vs a).ownBlock) (hat : v1.ownBlock = (vs a).ownBlock ∨ ∃ b, v1.ownBlock = some b ∧ wr.heap.size ≤ b) :
    ∃ Av cv, v1 = .slice Av (o a ++ ys).length cv ∧ wa.cell? ⟨B, a, none⟩ = some (vs a) ∧ wa.frozen? ⟨B, a, none⟩ = false ∧
      Hid (OwnRows (wa.setCell ⟨B, a, none⟩ v1) (B + 1) B n (fun i => if i = a then v1 else vs i) (fun i => if i = a then o i ++ ys else o i) ∧ Below w.heap.size w (wa.setCell ⟨B, a, none⟩ v1)) := by
  obtain ⟨Av, cv, hv⟩ := own_slice hown
  have hBw : B < wr.heap.size := (Array.getElem?_eq_some_iff.1 h.row).1
  have hne : some B ≠ (vs a).ownBlock := fun e => by have := own_base (h.own a ha) B e.symm; omega
  have hc := cell_of_row ((hg.block B (by omega) hne).trans h.row) (rowF_get (f := vs) ha)
  refine ⟨Av, cv, hv, hc.1, hc.2, Lib.hid ⟨h.append ha hg hown hat, ?_⟩⟩
  exact (hb.grown hg hb.size (fun k hk => by have := own_base (h.own a ha) k hk; omega)).setCell (p := ⟨B, a, none⟩) hwB v1

theorem two_ints (w : World) (b : Int) : ReadsInt (w.alloc (.cells #[.int .i64 b, .int .i64 b] 3)) .i64 (some ⟨w.heap.size, 0, none⟩) 2 [b, b] := by
  refine ⟨rfl, by omega, fun _ => ⟨_, rfl, fun j hj => ?_⟩⟩
  have hr : (w.alloc (.cells #[.int .i64 b, .int .i64 b] 3)).heap[w.heap.size]? = some (.cells #[.int .i64 b, .int .i64 b] 3 (0, 0)) := (MapKept.heap_alloc w _).1
  rw [add_plain]
  match j, hj with
  | 0, _ => exact (cell_of_row hr (i := 0) rfl).1
  | 1, _ => exact (cell_of_row hr (i := 1) rfl).1

set_option maxHeartbeats 4000000 in
set_option maxRecDepth 100000 in
theorem walkLists (A : Option Addr) (c : Nat) (E : List (List Int)) (cu : Int) (w : World) (hC : Kd.C (Kd.slice 3 (Kd.int .i64)) w A E.length E) (hl : E.length ≤ c) (_hI : ∀ x ∈ E, ∀ y ∈ x, (Lit.int .i64 y).wf = true) (hw : (Lit.int .u8 cu).wf = true) :
    Calls Try.prog 6 #[.slice A E.length c, .int .u8 cu] w fun e w' => e = .returned (.bool true) ∧ Below w.heap.size w w' := by
  have hcu : 0 ≤ cu ∧ cu ≤ 255 := by
    simp [Lit.wf, IntKind.min, IntKind.max, IntKind.signed, IntKind.bits] at hw
    omega
  obtain ⟨hcu0, hcu1⟩ := hcu
  have HE := Lib.hid hC
  clear hC hw
  obtain ⟨wb, hwb, hws⟩ := wide_f E 100 (by omega)
  have HWB := Lib.hid hwb
  clear hwb
  cases wb with
  | true =>
    clear hws
    go_enter Try.func6, Try.ntmps6
    go_wp2_with (first
      | (go_at_call 7; refine (ontimelaw20_awake.calls 100 true _ (awake_f 100 (by omega))).mono ?_; rintro e w1 ⟨rfl, hb1⟩)
      | (go_at_call 8; refine (ontimelaw20_wide.calls 100 A c E true _ (Kd.C_below HE.out hb1) hl HWB.out).mono ?_; rintro e w2 ⟨rfl, hd2⟩) | fail)
    go_ret
    exact ⟨rfl, hb1.trans (hd2.below.mono hb1.size)⟩
  | false =>
    have hE := hws rfl
    have HSM := Lib.hid hE
    have hn := hE.n
    clear hws hE
    obtain ⟨kc, hkc⟩ : ∃ kc : Nat, cu % 31 = (kc : Int) := ⟨(cu % 31).toNat, by omega⟩
    have hkb : kc ≤ 30 := by omega
    have hinfo : (Try.prog.info? 26).map (fun i => (i.zero, i.size, i.bytes)) = some (some (.slice none 0 0), 1, 24) := by kernel_rfl
    have hmk := run_make_row' (P := Try.prog) 22 26 (.slice none 0 0) 24 Try.underlying22 hinfo rfl .i64 .i64 E.length (by omega) (by omega)
    rw [rowF_made] at hmk
    clear hinfo
    go_enter Try.func6, Try.ntmps6
    go_wp2_with (first
      | (go_at_call 7; refine (ontimelaw20_awake.calls 100 true _ (awake_f 100 (by omega))).mono ?_; rintro e w1 ⟨rfl, hb1⟩)
      | (go_at_call 8; refine (ontimelaw20_wide.calls 100 A c E false _ (Kd.C_below HE.out hb1) hl HWB.out).mono ?_; rintro e w2 ⟨rfl, hd2⟩) | fail)
    clear hmk
    have hb02 : Below w.heap.size w w2 := hb1.trans (hd2.below.mono hb1.size)
    obtain ⟨B, hB⟩ : ∃ B, B = w2.heap.size := ⟨_, rfl⟩
    have hwB : w.heap.size ≤ B := by rw [hB]; exact hb02.size
    have hOR0 : OwnRows (w2.alloc (.cells (rowF (fun _ => .slice none 0 0) E.length) 26)) (B + 1) B E.length (fun _ => .slice none 0 0) (allL E 0) :=
      ⟨by rw [hB]; exact (MapKept.heap_alloc w2 _).1, fun a _ => World.ownsRow_nil _ _ _ _, fun _ _ _ _ _ => .inl rfl, by omega⟩
    have HO0 := Lib.hid hOR0
    have HB0 := Lib.hid (hb02.alloc hb02.size (.cells (rowF (fun _ => .slice none 0 0) E.length) 26))
    rw [← hB] at *
    clear hOR0 hb1 hb02 hd2 hB
    obtain ⟨w3, hw3⟩ : ∃ w3, w3 = w2.alloc (.cells (rowF (fun _ => .slice none 0 0) E.length) 26) := ⟨_, rfl⟩
    rw [← hw3] at HO0 HB0 ⊢
    clear hw3
    go_loopw [18] (fun v wr => ∃ i : Nat, i ≤ E.length ∧ v = .int .i64 i ∧ (∃ vs, OwnRows wr (B + 1) B E.length vs (allL E i)) ∧ Below w.heap.size w wr) (fun v _ => E.length - (intOf v).toNat)
    case atStart => exact ⟨0, Nat.zero_le _, rfl, ⟨_, HO0.out⟩, HB0.out⟩
    case round =>
      clear HO0 HB0
      obtain ⟨i, hi, rfl, ⟨vs, hOR⟩, hbel⟩ := hrel
      by_cases hlt : i < E.length
      · obtain ⟨ad, A1, c1, rfl, hce, hc1, hE1⟩ := at_rows HE.out i hlt
        have hce1 := pw_cell_below hbel hce
        have hll := HSM.out.row i
        obtain ⟨l, hlE⟩ : ∃ l, l = E.getD i [] := ⟨_, rfl⟩
        rw [← hlE] at hce hc1 hE1 hce1 hll
        have HE1 := Lib.hid hE1
        have HLE := Lib.hid hlE
        have HOR := Lib.hid hOR
        have HBEL := Lib.hid hbel
        have HCE := Lib.hid hce
        clear hE1 hlE hce hOR hbel
        go_wp2
        clear hce1
        obtain ⟨wq, hwq⟩ : ∃ wq, wq = wr := ⟨_, rfl⟩
        rw [← hwq] at HOR HBEL ⊢
        clear hwq
        go_loopw [7] (fun v wr => ∃ j : Nat, j ≤ l.length ∧ v = .int .i64 ((l.length : Int) - 1 - j) ∧ (∃ vs, OwnRows wr (B + 1) B E.length vs (rowL E.length i (allL E i) (l.reverse.take j))) ∧ Below w.heap.size w wr) (fun v _ => (intOf v + 1).toNat)
        case atStart => exact ⟨0, Nat.zero_le _, by go_num, ⟨_, by simpa [rowL] using HOR.out⟩, HBEL.out⟩
        case round =>
          clear HOR HBEL
          obtain ⟨j, hj, rfl, ⟨vs, hOR⟩, hbel⟩ := hrel
          by_cases hjl : j < l.length
          · obtain ⟨p, hp⟩ : ∃ p : Nat, (l.length : Int) - 1 - j = (p : Int) := ⟨l.length - 1 - j, by omega⟩
            rw [hp]
            have hpl : p < l.length := by omega
            have b0 : decide (0 ≤ (p : Int)) = true := decide_eq_true (by omega)
            obtain ⟨ad1, rfl, hq⟩ := at_ints HE1.out p hpl
            have hq1 := pw_cell_below hbel hq
            have hcr := pw_cell_below hbel HCE.out
            have hts := rowL_take (n := E.length) (i := i) (o := allL E i) (l := l.reverse) (j := j) (by simpa using hjl)
            have hlen : ∀ a, (rowL E.length i (allL E i) (l.reverse.take j) a).length ≤ 6000 := fun a => by
              have h1 := rowL_len (n := E.length) (i := i) (l.reverse.take j) (allL E i) (120 * i) (allL_len HSM.out i) a
              have h2 : (l.reverse.take j).length ≤ l.length := by simp; omega
              omega
            obtain ⟨q, hqE⟩ : ∃ q, q = l.getD p 0 := ⟨_, rfl⟩
            have hqr : l.reverse.getD j 0 = q := by
              have hpj : p = l.length - 1 - j := by omega
              rw [hqE, hpj, List.getD_eq_getElem?_getD, List.getD_eq_getElem?_getD, List.getElem?_reverse hjl]
            rw [← hqE] at hq1
            rw [hqr] at hts
            have HT := Lib.hid hts
            have HLN := Lib.hid hlen
            obtain ⟨o, ho⟩ : ∃ o, o = rowL E.length i (allL E i) (l.reverse.take j) := ⟨_, rfl⟩
            rw [← ho] at hOR HT HLN
            have hcv := cell_of_row hOR.row (rowF_get (f := vs) hlt)
            obtain ⟨hcv1, hcv2⟩ := hcv
            have HOR := Lib.hid hOR
            have HBEL := Lib.hid hbel
            clear hts hlen ho hqE hqr hOR hbel hq
            have hinfo : (Try.prog.info? 3).map (fun i => (i.zero, i.size, i.bytes)) = some (some (.int .i64 0), 1, 8) := by kernel_rfl
            have HI := Lib.hid hinfo
            clear hinfo
            have hBw : B < wr.heap.size := (Array.getElem?_eq_some_iff.1 HOR.out.row).1
            by_cases hin : 0 ≤ q ∧ q < (E.length : Int)
            · obtain ⟨t, rfl⟩ : ∃ t : Nat, q = (t : Int) := ⟨q.toNat, by omega⟩
              have htl : t < E.length := by omega
              have hst : stepL E.length i o (t : Int) = fun a => if a = t then (fun a => if a = i then o a ++ [(t : Int), (t : Int)] else o a) a ++ [(i : Int)] else (fun a => if a = i then o a ++ [(t : Int), (t : Int)] else o a) a := by
                unfold stepL; rw [if_pos hin]; simp only [Int.toNat_natCast]
              rw [hst] at HT
              have b1 : decide (0 ≤ (t : Int)) = true := decide_eq_true hin.1
              have b2 : decide ((t : Int) < (E.length : Int)) = true := decide_eq_true hin.2
              clear hin hst
              go_upto_region 14 with (first | (at_builtin; refine print_append_row (B + 1) rfl _ _ 26 3 .i64 8 rfl Try.underlying26 HI.out (by omega) (vs i) (o i) [(t : Int), (t : Int)] (some ⟨wr.heap.size, 0, none⟩) 2 2 rfl rfl ((HOR.out.own i hlt).alloc _) (two_ints wr (t : Int)) (Below.refl _ _) (by rw [alloc_size1]; omega) (by have := HLN.out i; omega) ?_; intro v1 wa hown1 _ hg1 hat1; obtain ⟨Av, cv, rfl, hcw1, hcw2, HO1⟩ := (HOR.out.alloc _).app (HBEL.out.alloc HBEL.out.size _) hwB hlt hown1 hg1 hat1; rw [show (o i ++ [(t : Int), (t : Int)]).length = (o i).length + 2 by simp] at HO1; clear hown1 hg1 hat1) | fail)
              obtain ⟨wx, hwx⟩ : ∃ wx, wx = wa.setCell ⟨B, i, none⟩ (.slice Av ((o i).length + 2) cv) := ⟨_, rfl⟩
              have HL1 : Hid ((o i ++ [(t : Int), (t : Int)]).length ≤ 6002 ∧ (o t).length ≤ 6000) := Lib.hid ⟨by have := HLN.out i; simp; omega, HLN.out t⟩
              obtain ⟨vs1, hvs1⟩ : ∃ vs1, vs1 = fun a => if a = i then Value.slice Av ((o i).length + 2) cv else vs a := ⟨_, rfl⟩
              obtain ⟨o1, ho1⟩ : ∃ o1, o1 = fun a => if a = i then o a ++ [(t : Int), (t : Int)] else o a := ⟨_, rfl⟩
              rw [← hwx, ← hvs1, ← ho1] at HO1
              rw [← ho1] at HT
              rw [← hwx]
              have HL1 : Hid ((o1 t).length ≤ 6002) := Lib.hid (by
                rw [ho1]
                show (if t = i then o t ++ [(t : Int), (t : Int)] else o t).length ≤ _
                by_cases e : t = i
                · rw [if_pos e, e]; exact e ▸ HL1.out.1
                · rw [if_neg e]; have := HL1.out.2; omega)
              have hcy := (cell_of_row HO1.out.1.row (rowF_get (f := vs1) htl)).1
              have hBx : B < wx.heap.size := (Array.getElem?_eq_some_iff.1 HO1.out.1.row).1
              clear hwx hvs1 ho1 HOR HBEL HLN hBw hcw1 hcw2
              go_wp2_with (first | (at_builtin; refine print_append_num (B + 1) rfl _ _ 26 3 .i64 8 rfl Try.underlying26 HI.out (by omega) (vs1 t) (o1 t) (i : Int) rfl rfl (HO1.out.1.own t htl) (Below.refl _ _) (by omega) (by have := HL1.out; omega) ?_; intro v2 wc hown2 _ hg2 hat2; obtain ⟨Aw, cw, rfl, hcx1, hcx2, HO2⟩ := HO1.out.1.app HO1.out.2 hwB htl hown2 hg2 hat2; rw [show (o1 t ++ [(i : Int)]).length = (o1 t).length + 1 by simp] at HO2; clear hown2 hg2 hat2) | fail)
              go_roundw
              case rel => exact ⟨j + 1, by omega, by go_num, ⟨_, HT.out ▸ HO2.out.1⟩, HO2.out.2⟩
              case measure => simp [intOf]
            · have hst : stepL E.length i o q = fun a => if a = i then o a ++ [q, q] else o a := by unfold stepL; rw [if_neg hin]
              rw [hst] at HT
              by_cases hq0 : 0 ≤ q
              · have b1 : decide (0 ≤ q) = true := decide_eq_true hq0
                have b2 : decide (q < (E.length : Int)) = false := decide_eq_false (by omega)
                clear hin hst
                go_wp2_with (first | (at_builtin; refine print_append_row (B + 1) rfl _ _ 26 3 .i64 8 rfl Try.underlying26 HI.out (by omega) (vs i) (o i) [q, q] (some ⟨wr.heap.size, 0, none⟩) 2 2 rfl rfl ((HOR.out.own i hlt).alloc _) (two_ints wr q) (Below.refl _ _) (by rw [alloc_size1]; omega) (by have := HLN.out i; omega) ?_; intro v1 wa hown1 _ hg1 hat1; obtain ⟨Av, cv, rfl, hcw1, hcw2, HO1⟩ := (HOR.out.alloc _).app (HBEL.out.alloc HBEL.out.size _) hwB hlt hown1 hg1 hat1; rw [show (o i ++ [q, q]).length = (o i).length + 2 by simp] at HO1; clear hown1 hg1 hat1) | fail)
                go_roundw
                case rel => exact ⟨j + 1, by omega, by go_num, ⟨_, HT.out ▸ HO1.out.1⟩, HO1.out.2⟩
                case measure => simp [intOf]
              · have b1 : decide (0 ≤ q) = false := decide_eq_false hq0
                clear hin hst
                go_wp2_with (first | (at_builtin; refine print_append_row (B + 1) rfl _ _ 26 3 .i64 8 rfl Try.underlying26 HI.out (by omega) (vs i) (o i) [q, q] (some ⟨wr.heap.size, 0, none⟩) 2 2 rfl rfl ((HOR.out.own i hlt).alloc _) (two_ints wr q) (Below.refl _ _) (by rw [alloc_size1]; omega) (by have := HLN.out i; omega) ?_; intro v1 wa hown1 _ hg1 hat1; obtain ⟨Av, cv, rfl, hcw1, hcw2, HO1⟩ := (HOR.out.alloc _).app (HBEL.out.alloc HBEL.out.size _) hwB hlt hown1 hg1 hat1; rw [show (o i ++ [q, q]).length = (o i).length + 2 by simp] at HO1; clear hown1 hg1 hat1) | fail)
                go_roundw
                case rel => exact ⟨j + 1, by omega, by go_num, ⟨_, HT.out ▸ HO1.out.1⟩, HO1.out.2⟩
                case measure => simp [intOf]
          · have e : j = l.length := by omega
            rw [e, show (l.length : Int) - 1 - (l.length : Int) = -1 by omega]
            have HX : Hid (∃ vs, OwnRows wr (B + 1) B E.length vs (allL E (i + 1))) := Lib.hid ⟨vs, by
              have h : allL E (i + 1) = rowL E.length i (allL E i) (l.reverse.take j) := by
                rw [e, List.take_of_length_le (by simp)]
                show rowL E.length i (allL E i) (E.getD i []).reverse = _
                rw [← HLE.out]
              rw [h]; exact hOR⟩
            have HBEL := Lib.hid hbel
            clear hOR hbel
            go_wp2
            go_roundw
            case rel => exact ⟨i + 1, by omega, by go_num, HX.out, HBEL.out⟩
            case measure => simp [intOf]; omega
      · have e : i = E.length := by omega
        rw [e] at hOR ⊢
        have hread := hOR.reads (by omega)
        have hoe : (List.range E.length).map (allL E E.length) = otherE E := rfl
        rw [hoe] at hread
        have HR := Lib.hid hread
        have HBEL := Lib.hid hbel
        have hol := otherE_len E
        have hll : ∀ l ∈ otherE E, l.length ≤ 1500 := by
          intro l hl
          unfold otherE at hl
          rw [List.mem_map] at hl
          obtain ⟨a, _, rfl⟩ := hl
          have h_ := allL_len1 HSM.out a E.length
          have h3 : (if a < E.length then 80 else 0) ≤ 80 := by split <;> omega
          omega
        have HLL := Lib.hid hll
        have hce := other_color E (kc : Int)
        have hcl : (colorE E (kc : Int)).length ≤ 100 := by rw [show (colorE E (kc : Int)).length = E.length by unfold colorE; rw [ColorLaw.color_len]]; omega
        have HCE := Lib.hid hce
        have HCL := Lib.hid hcl
        clear hoe hread hOR hbel hll hce hcl
        have hcl1 : (colorE E (kc : Int)).length = E.length := colorE_len1 E _
        obtain ⟨r, hr⟩ : ∃ r, r = colorE E (kc : Int) := ⟨_, rfl⟩
        obtain ⟨E2, hE2⟩ : ∃ E2, E2 = otherE E := ⟨_, rfl⟩
        rw [hol] at HR
        rw [← hE2] at HR HLL HCE hol
        rw [← hr] at HCE HCL hcl1
        have HR1 := Lib.hid hr.symm
        have HOL := Lib.hid hol
        have HC1 := Lib.hid hcl1
        clear hcl1 hol hr hE2
        go_upto_region 17 with (fail)
        go_wp2_with (first
          | (go_at_call 10; have h5 := HB4; refine (color_calls_n (some ⟨B, 0, none⟩) E.length E.length E2 (kc : Int) _ r HCE.out HOL.out (Kd.C_below HR.out h5.out.2) (Nat.le_refl _) hn HLL.out (by omega)).mono ?_; rintro e w5 ⟨A5, c5, rfl, hl5, HB5⟩)
          | (go_at_call 10; refine (color_calls_n A c E.length E (kc : Int) _ r HR1.out rfl (Kd.C_below HE.out HBEL.out) hl hn (fun l hl => by have := HSM.out.l l hl; omega) (by omega)).mono ?_; rintro e w4 ⟨A4, c4, rfl, hl4, HB4⟩)
          | (go_at_call 9; refine (ints_n A4 c4 A5 c5 E.length r _ HC1.out hn (Kd.C_below HB4.out.1 HB5.out.2) hl4 HB5.out.1 hl5).mono ?_; rintro e w6 ⟨rfl, hd6⟩) | fail)
        go_ret
        exact ⟨rfl, HBEL.out.trans ((HB4.out.2.trans ((HB5.out.2.trans (hd6.below.mono HB5.out.2.size)).mono HB4.out.2.size)).mono HBEL.out.size)⟩

end Go.Proofs.Ytefkkgldlijbbaa
