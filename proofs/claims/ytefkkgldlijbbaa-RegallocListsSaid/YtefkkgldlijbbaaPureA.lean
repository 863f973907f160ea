/- What the reference of chapter 20 computes: the law of colouring. Plain Lean over the printed functions. -/
import Derived.Test.YtefkkgldlijbbaaHx3
import Derived.Test.YtefkkgldlijbbaaColorH
namespace Go.Proofs.Ytefkkgldlijbbaa.H
open Go.RowKit Go.Proofs.YtefkkgldlijbbaaW.PrintWords Go.Proofs.YtefkkgldlijbbaaW.PrintMore Go.Proofs.Ytefkkgldlijbbaa

theorem wr1 {i : Nat} (h : i < 1000000000) : wrap64 ((i : Int) + 1) = ((i + 1 : Nat) : Int) := by unfold wrap64; omega
theorem rd_nat (l : List Int) (i : Nat) : rd l (i : Int) = l.getD i 0 := by unfold rd; rw [Int.toNat_natCast]
theorem rdRow (E : List (List Int)) (i : Nat) : rd_L1 E (i : Int) = E.getD i [] := by unfold rd_L1; rw [Int.toNat_natCast]
theorem k_succ {d k : Nat} (h : d < k) : ∃ m, k = m + 1 ∧ d ≤ m := ⟨k - 1, by omega, by omega⟩

theorem has_l0 (l : List Int) (x : Int) (hl : l.length ≤ 100000) : ∀ (d i k : Nat), i + d = l.length → d < k → ontimeref20_has.l0 k l x (i : Int) = some ((l.drop i).contains x) := by
  intro d
  induction d with
  | zero =>
    intro i k hi hk
    obtain ⟨k, rfl, _⟩ := k_succ hk
    simp only [ontimeref20_has.l0]
    rw [if_neg (by omega), List.drop_of_length_le (by omega)]; rfl
  | succ d ih =>
    intro i k hi hk
    obtain ⟨k, rfl, hk⟩ := k_succ hk
    simp only [ontimeref20_has.l0]
    rw [if_pos (by omega), if_pos (by omega), rd_nat, wr1 (by omega), ih (i + 1) k (by omega) (by omega)]
    have e : l.drop i = l.getD i 0 :: l.drop (i + 1) := by
      rw [List.drop_eq_getElem_cons (by omega), List.getD_eq_getElem?_getD, List.getElem?_eq_getElem (by omega)]; rfl
    rw [e, List.contains_cons]
    by_cases h : l.getD i 0 = x
    · rw [if_pos h, h]; simp
    · rw [if_neg h]
      have : (x == l.getD i 0) = false := by simpa using fun e => h e.symm
      rw [this, Bool.false_or]
theorem has_f (l : List Int) (x : Int) (k : Nat) (hl : l.length ≤ 100000) (hk : l.length < k) : ontimeref20_has.f k l x = some (l.contains x) := by
  unfold ontimeref20_has.f
  have := has_l0 l x hl l.length 0 k (by omega) hk
  simpa using this

/-- A graph within the law's bounds. -/
structure Small (E : List (List Int)) : Prop where
  n : E.length ≤ 24
  l : ∀ l ∈ E, l.length ≤ 40
theorem Small.row {E : List (List Int)} (h : Small E) (i : Nat) : (E.getD i []).length ≤ 40 := by
  rw [List.getD_eq_getElem?_getD]
  cases he : E[i]? with
  | none => simp
  | some l => exact h.l l (List.mem_of_getElem? he)

theorem adjacent_f {E : List (List Int)} (hE : Small E) (a b k : Nat) (ha : a < E.length) (hb : b < E.length) (hk : 41 ≤ k) : ontimeref20_Adjacent.f k E a b = some (adjE E a b) := by
  unfold ontimeref20_Adjacent.f adjE
  by_cases h : (a : Int) = b
  · have : a = b := by omega
    subst this
    simp
  · have hne : (a != b) = true := by simp; omega
    rw [if_neg h, if_pos (by omega), if_pos (by omega), rdRow, rdRow, has_f _ _ _ (by have := hE.row a; omega) (by have := hE.row a; omega)]
    simp only [Option.bind_some]
    rw [hne, Bool.true_and]
    by_cases h1 : (E.getD a []).contains (b : Int) = true
    · rw [if_pos h1, h1, Bool.true_or]
    · rw [if_neg h1, if_pos (by omega), if_pos (by omega), has_f _ _ _ (by have := hE.row b; omega) (by have := hE.row b; omega)]
      rw [show (E.getD a []).contains (b : Int) = false by simpa using h1, Bool.false_or]; rfl

/-- What is gone, as a list of bools. -/
def goneL (n : Nat) (R : List Nat) : List Bool := (List.range n).map fun a => R.contains a
theorem goneL_len (n : Nat) (R : List Nat) : (goneL n R).length = n := by simp [goneL]
theorem goneL_rd {n : Nat} {R : List Nat} {i : Nat} (h : i < n) : rdOf false (goneL n R) (i : Int) = R.contains i := by
  unfold rdOf goneL
  rw [Int.toNat_natCast, List.getD_eq_getElem?_getD, List.getElem?_map, List.getElem?_range h]; rfl
theorem goneL_set {n : Nat} {R : List Nat} {p : Nat} : (goneL n R).set p true = goneL n (R ++ [p]) := by
  unfold goneL
  apply List.ext_getElem?
  intro i
  rw [List.getElem?_set, List.getElem?_map, List.getElem?_map, List.length_map, List.length_range]
  by_cases hi : i < n
  · rw [List.getElem?_range hi]
    by_cases e : p = i
    · subst e; simp [hi]
    · rw [if_neg e]; simp [Ne.symm e]
  · rw [List.getElem?_eq_none (by simpa using hi)]
    by_cases e : p = i
    · subst e; simp [hi]
    · simp [e]

theorem range_drop {n i : Nat} (h : i < n) : (List.range n).drop i = i :: (List.range n).drop (i + 1) := by
  rw [List.drop_eq_getElem_cons (by simpa using h)]; simp

theorem degree_l0 {E : List (List Int)} (hE : Small E) (R : List Nat) (a : Nat) (ha : a < E.length) : ∀ (d i k m : Nat), i + d = E.length → d + 42 ≤ k → m ≤ i →
    ontimeref20_degree.l0 k E (goneL E.length R) (a : Int) (m : Int) (i : Int) = some ((m : Int) + (((List.range E.length).drop i).countP (fun b => !R.contains b && adjE E a b) : Nat)) := by
  have hn := hE.n
  intro d
  induction d with
  | zero =>
    intro i k m hi hk hm
    obtain ⟨k, rfl, _⟩ := k_succ (show 0 < k by omega)
    simp only [ontimeref20_degree.l0]
    rw [if_neg (by omega), List.drop_of_length_le (by simp; omega)]; simp
  | succ d ih =>
    intro i k m hi hk hm
    obtain ⟨k, rfl, hk'⟩ := k_succ (show 0 < k by omega)
    simp only [ontimeref20_degree.l0]
    rw [if_pos (by omega), if_pos (by omega), if_pos (by rw [goneL_len]; omega), goneL_rd (by omega), range_drop (show i < E.length by omega), List.countP_cons, wr1 (by omega)]
    by_cases h : R.contains i = true
    · rw [if_pos h, ih (i + 1) k m (by omega) (by omega) (by omega)]
      have h2 : (!R.contains i && adjE E a i) = false := by rw [h]; rfl
      rw [h2]; rfl
    · rw [if_neg h, adjacent_f hE a i k ha (by omega) (by omega)]
      have h' : R.contains i = false := by simpa using h
      simp only [Option.bind_some]
      rw [h', Bool.not_false, Bool.true_and]
      by_cases h1 : adjE E a i = true
      · rw [if_pos h1, wr1 (by omega), ih (i + 1) k (m + 1) (by omega) (by omega) (by omega), if_pos h1]
        congr 1; omega
      · rw [if_neg h1, ih (i + 1) k m (by omega) (by omega) (by omega), if_neg h1]
        rfl
theorem degree_f {E : List (List Int)} (hE : Small E) (R : List Nat) (a k : Nat) (ha : a < E.length) (hk : 70 ≤ k) : ontimeref20_degree.f k E (goneL E.length R) (a : Int) = some (ColorLaw.deg E.length (adjE E) R a) := by
  have hn := hE.n
  unfold ontimeref20_degree.f ColorLaw.deg
  have := degree_l0 hE R a ha E.length 0 k 0 (by omega) (by omega) (by omega)
  simpa using this

theorem next_l0 {E : List (List Int)} (hE : Small E) (R : List Nat) (c : Int) : ∀ (d i k : Nat) (best most : Int), i + d = E.length → d + 71 ≤ k →
    ontimeref20_next.l0 k E (goneL E.length R) c best most (i : Int) = some (ColorLaw.scan (ColorLaw.deg E.length (adjE E) R) (fun a => R.contains a) c ((List.range E.length).drop i) best most) := by
  have hn := hE.n
  intro d
  induction d with
  | zero =>
    intro i k best most hi hk
    obtain ⟨k, rfl, _⟩ := k_succ (show 0 < k by omega)
    simp only [ontimeref20_next.l0]
    rw [if_neg (by omega), List.drop_of_length_le (by simp; omega)]; rfl
  | succ d ih =>
    intro i k best most hi hk
    obtain ⟨k, rfl, hk'⟩ := k_succ (show 0 < k by omega)
    simp only [ontimeref20_next.l0]
    rw [if_pos (by omega), if_pos (by omega), if_pos (by rw [goneL_len]; omega), goneL_rd (by omega), range_drop (show i < E.length by omega), wr1 (by omega)]
    unfold ColorLaw.scan
    by_cases h : R.contains i = true
    · rw [if_pos h, if_pos h, ih (i + 1) k best most (by omega) (by omega)]
    · rw [if_neg h, if_neg h, degree_f hE R i k (by omega) (by omega)]
      simp only [Option.bind_some]
      by_cases h1 : ColorLaw.deg E.length (adjE E) R i < c
      · rw [if_pos h1, if_pos h1]
      · rw [if_neg h1, if_neg h1]
        by_cases h2 : ColorLaw.deg E.length (adjE E) R i > most
        · rw [if_pos h2, if_pos h2, ih (i + 1) k _ _ (by omega) (by omega)]
        · rw [if_neg h2, if_neg h2, ih (i + 1) k _ _ (by omega) (by omega)]
theorem next_f {E : List (List Int)} (hE : Small E) (R : List Nat) (c : Int) (k : Nat) (hk : 100 ≤ k) : ontimeref20_next.f k E (goneL E.length R) c = some (ColorLaw.next E.length (adjE E) c R) := by
  have hn := hE.n
  unfold ontimeref20_next.f ColorLaw.next
  have := next_l0 hE R c E.length 0 k (-1) (-1) (by omega) (by omega)
  simpa using this

theorem free_l0 {E : List (List Int)} (hE : Small E) (o : List Int) (ho : o.length = E.length) (a : Nat) (ha : a < E.length) (q : Nat) : ∀ (d i k : Nat), i + d = E.length → d + 42 ≤ k →
    ontimeref20_free.l0 k E o (a : Int) (q : Int) (i : Int) = some (!((List.range E.length).drop i).any (fun b => adjE E a b && o.getD b (-1) == (q : Int))) := by
  have hn := hE.n
  intro d
  induction d with
  | zero =>
    intro i k hi hk
    obtain ⟨k, rfl, _⟩ := k_succ (show 0 < k by omega)
    simp only [ontimeref20_free.l0]
    rw [if_neg (by omega), List.drop_of_length_le (by simp; omega)]; rfl
  | succ d ih =>
    intro i k hi hk
    obtain ⟨k, rfl, hk'⟩ := k_succ (show 0 < k by omega)
    simp only [ontimeref20_free.l0]
    have hd : o.getD i 0 = o.getD i (-1) := by rw [List.getD_eq_getElem?_getD, List.getD_eq_getElem?_getD, List.getElem?_eq_getElem (by omega)]; rfl
    rw [if_pos (by omega), if_pos (by omega), if_pos (by omega), rd_nat, hd, range_drop (show i < E.length by omega), wr1 (by omega), List.any_cons]
    by_cases h : o.getD i (-1) = (q : Int)
    · rw [if_pos h, adjacent_f hE a i k ha (by omega) (by omega), h]
      simp only [Option.bind_some, beq_self_eq_true, Bool.and_true]
      by_cases h1 : adjE E a i = true
      · rw [if_pos h1, h1]; simp
      · rw [if_neg h1, ih (i + 1) k (by omega) (by omega), show adjE E a i = false by simpa using h1, Bool.false_or]
    · rw [if_neg h, ih (i + 1) k (by omega) (by omega)]
      have h1 : (o.getD i (-1) == (q : Int)) = false := by simpa using h
      rw [h1, Bool.and_false, Bool.false_or]
theorem free_f {E : List (List Int)} (hE : Small E) (o : List Int) (ho : o.length = E.length) (a : Nat) (ha : a < E.length) (q k : Nat) (hk : 70 ≤ k) : ontimeref20_free.f k E o (a : Int) (q : Int) = some (ColorLaw.free E.length (adjE E) o a q) := by
  have hn := hE.n
  unfold ontimeref20_free.f ColorLaw.free
  have := free_l0 hE o ho a ha q E.length 0 k (by omega) (by omega)
  simpa using this

/-- The row while it is filled. -/
def fillL (n i : Nat) : List Int := (List.range n).map fun a => if a < i then -1 else 0
theorem fillL_set {n i : Nat} (h : i < n) : (fillL n i).set i (-1) = fillL n (i + 1) := by
  unfold fillL
  apply List.ext_getElem?
  intro j
  rw [List.getElem?_set, List.getElem?_map, List.getElem?_map, List.length_map, List.length_range]
  by_cases hj : j < n
  · rw [List.getElem?_range hj]
    by_cases e : i = j
    · subst e; simp [hj]
    · rw [if_neg e]
      by_cases h1 : j < i
      · simp [h1, show j < i + 1 by omega]
      · simp [h1, show ¬ j < i + 1 by omega]
  · rw [List.getElem?_eq_none (by simpa using hj)]
    rw [if_neg (by omega)]; rfl
theorem fillL_zero (n : Nat) : fillL n 0 = List.replicate n 0 := by
  unfold fillL
  apply List.ext_getElem?
  intro j
  by_cases hj : j < n
  · simp [hj]
  · rw [List.getElem?_eq_none (by simpa using hj), List.getElem?_eq_none (by simpa using hj)]
theorem fillL_full (n : Nat) : fillL n n = List.replicate n (-1) := by
  unfold fillL
  apply List.ext_getElem?
  intro j
  by_cases hj : j < n
  · simp [hj]
  · rw [List.getElem?_eq_none (by simpa using hj), List.getElem?_eq_none (by simpa using hj)]

/-- Colouring from the last on: what l2 does from index i - 1 on. -/
def fromTop (n : Nat) (A : Nat → Nat → Bool) (c : Nat) (R : List Nat) : Nat → List Int → List Int
  | 0, o => o
  | i + 1, o => fromTop n A c R i (ColorLaw.colorStep n A c o (R.getD i 0))
theorem fromTop_take {n : Nat} {A : Nat → Nat → Bool} {c : Nat} {R : List Nat} : ∀ (i : Nat) (o : List Int), i ≤ R.length → fromTop n A c R i o = ColorLaw.colors n A c (R.take i).reverse o
  | 0, o, _ => rfl
  | i + 1, o, h => by
    show fromTop n A c R i (ColorLaw.colorStep n A c o (R.getD i 0)) = _
    rw [fromTop_take i _ (by omega), List.take_succ_eq_append_getElem (show i < R.length by omega), List.reverse_append]
    have e : R.getD i 0 = R[i] := by rw [List.getD_eq_getElem?_getD, List.getElem?_eq_getElem (by omega)]; rfl
    rw [e]; rfl

theorem step_len (n A c o a) : (ColorLaw.colorStep n A c o a).length = o.length := by unfold ColorLaw.colorStep; split <;> simp

theorem Color_l3 {E : List (List Int)} (hE : Small E) (c : Nat) (hc : c ≤ 30) (R : List Nat) (hR : R.length = E.length) (hRn : ∀ a ∈ R, a < E.length) (r : List Int) (o : List Int) (ho : o.length = E.length) (i : Nat) (hi : i < E.length) (hun : o.getD (R.getD i 0) (-1) = -1) (K : Nat)
    (hend : ∀ k, K ≤ k → ontimeref20_Color.l2 k E (c : Int) (R.map fun a : Nat => (a : Int)) (ColorLaw.colorStep E.length (adjE E) c o (R.getD i 0)) (wrap64 ((i : Int) - 1)) = some r) :
    ∀ (d q k : Nat), q + d = c → (∀ p, p < q → ColorLaw.free E.length (adjE E) o (R.getD i 0) p = false) → K + 80 + 3 * d ≤ k →
      ontimeref20_Color.l3 k E (c : Int) (R.map fun a : Nat => (a : Int)) o (i : Int) ((R.getD i 0 : Nat) : Int) (q : Int) = some r := by
  have hn := hE.n
  have ha : R.getD i 0 < E.length := hRn _ (by rw [List.getD_eq_getElem?_getD, List.getElem?_eq_getElem (by omega)]; simp)
  generalize R.getD i 0 = a at ha hend hun ⊢
  have hd : ∀ x : List Int, x.length = E.length → rd x (a : Int) = x.getD a (-1) := fun x hx => by
    rw [rd_nat, List.getD_eq_getElem?_getD, List.getD_eq_getElem?_getD, List.getElem?_eq_getElem (by omega)]; rfl
  intro d
  induction d with
  | zero =>
    intro q k hq hfr hk
    obtain ⟨k, rfl, _⟩ := k_succ (show 0 < k by omega)
    obtain ⟨k, rfl, _⟩ := k_succ (show 0 < k by omega)
    simp only [ontimeref20_Color.l3]
    rw [if_neg (by omega)]
    simp only [ontimeref20_Color.j5]
    rw [if_neg (by simp)]
    have e : q = c := by omega
    subst e
    rw [colorStep_miss hfr] at hend
    exact hend _ (by omega)
  | succ d ih =>
    intro q k hq hfr hk
    obtain ⟨k, rfl, _⟩ := k_succ (show 0 < k by omega)
    obtain ⟨k, rfl, _⟩ := k_succ (show 0 < k by omega)
    simp only [ontimeref20_Color.l3]
    rw [if_pos (by omega), if_pos (by omega), if_pos (by omega), hd o ho, hun]
    simp only [ontimeref20_Color.j5]
    rw [if_pos (by decide), free_f hE o ho a ha q k (by omega)]
    simp only [Option.bind_some]
    by_cases hf : ColorLaw.free E.length (adjE E) o a q = true
    · rw [if_pos hf, if_pos (by omega), if_pos (by omega), wr1 (by omega), Int.toNat_natCast]
      rw [colorStep_hit (by omega) hfr hf] at hend
      obtain ⟨k, rfl, _⟩ := k_succ (show 0 < k by omega)
      obtain ⟨k, rfl, _⟩ := k_succ (show 0 < k by omega)
      simp only [ontimeref20_Color.l3]
      have hlen : (o.set a (q : Int)).length = E.length := by simpa using ho
      have hv : rd (o.set a (q : Int)) (a : Int) = q := by rw [hd _ hlen, ColorLaw.getD_set_self _ _ _ _ (by omega)]
      by_cases h2 : ((q + 1 : Nat) : Int) < (c : Int)
      · rw [if_pos h2, if_pos (by omega), if_pos (by omega), hv]
        simp only [ontimeref20_Color.j5]
        rw [if_neg (by simp)]
        exact hend _ (by omega)
      · rw [if_neg h2]
        simp only [ontimeref20_Color.j5]
        rw [if_neg (by simp)]
        exact hend _ (by omega)
    · rw [if_neg hf, wr1 (by omega)]
      exact ih (q + 1) k (by omega) (fun p hp => by
        by_cases e : p = q
        · subst e; simpa using hf
        · exact hfr p (by omega)) (by omega)

theorem Color_l2 {E : List (List Int)} (hE : Small E) (c : Nat) (hc : c ≤ 30) (R : List Nat) (hR : R.length = E.length) (hRn : ∀ a ∈ R, a < E.length) (hnd : R.Nodup) : ∀ (i k : Nat) (o : List Int), i ≤ E.length → o.length = E.length → (∀ j, j < i → o.getD (R.getD j 0) (-1) = -1) → 200 * (i + 1) ≤ k →
    ontimeref20_Color.l2 k E (c : Int) (R.map fun a : Nat => (a : Int)) o (wrap64 ((i : Int) - 1)) = some (fromTop E.length (adjE E) c R i o) := by
  have hn := hE.n
  intro i
  induction i with
  | zero =>
    intro k o hi ho hun hk
    obtain ⟨k, rfl, _⟩ := k_succ (show 0 < k by omega)
    simp only [ontimeref20_Color.l2]
    rw [if_neg (by unfold wrap64; omega)]; rfl
  | succ i ih =>
    intro k o hi ho hun hk
    obtain ⟨k, rfl, _⟩ := k_succ (show 0 < k by omega)
    have hw : wrap64 (((i + 1 : Nat) : Int) - 1) = (i : Int) := by unfold wrap64; omega
    simp only [ontimeref20_Color.l2]
    rw [hw, if_pos (by omega), if_pos (by omega), if_pos (by simp; omega)]
    have hrd : rd (R.map fun a : Nat => (a : Int)) (i : Int) = ((R.getD i 0 : Nat) : Int) := by
      rw [rd_nat, List.getD_eq_getElem?_getD, List.getD_eq_getElem?_getD, List.getElem?_map]
      cases R[i]? <;> rfl
    rw [hrd]
    have hmem : ∀ j, j < E.length → R.getD j 0 ∈ R := fun j hj => by
      rw [List.getD_eq_getElem?_getD, List.getElem?_eq_getElem (by omega)]; simp
    refine Color_l3 hE c hc R hR hRn _ o ho i (by omega) (hun i (by omega)) (200 * (i + 1)) (fun k' hk' => ?_) c 0 k (by omega) (fun p hp => absurd hp (Nat.not_lt_zero _)) (by omega)
    refine ih k' _ (by omega) (by rw [step_len]; exact ho) (fun j hj => ?_) hk'
    have hne : R.getD i 0 ≠ R.getD j 0 := by
      intro e
      rw [List.getD_eq_getElem?_getD, List.getD_eq_getElem?_getD, List.getElem?_eq_getElem (by omega), List.getElem?_eq_getElem (by omega)] at e
      exact List.pairwise_iff_getElem.1 hnd j i (by omega) (by omega) hj e.symm
    unfold ColorLaw.colorStep
    split
    · rw [ColorLaw.getD_set_ne _ _ _ _ _ hne]; exact hun j (by omega)
    · exact hun j (by omega)

theorem Color_l1 {E : List (List Int)} (hE : Small E) (c : Int) (st : List Int) (r : List Int) (K : Nat) (hend : ∀ k, K ≤ k → ontimeref20_Color.l2 k E c st (List.replicate E.length (-1)) (wrap64 ((E.length : Int) - 1)) = some r) : ∀ (d i k : Nat), i + d = E.length → K + d < k →
    ontimeref20_Color.l1 k E c (E.length : Int) st (fillL E.length i) (i : Int) = some r := by
  have hn := hE.n
  intro d
  induction d with
  | zero =>
    intro i k hi hk
    obtain ⟨k, rfl, _⟩ := k_succ (show 0 < k by omega)
    simp only [ontimeref20_Color.l1]
    have e : i = E.length := by omega
    subst e
    rw [if_neg (by omega), fillL_full]
    exact hend _ (by omega)
  | succ d ih =>
    intro i k hi hk
    obtain ⟨k, rfl, _⟩ := k_succ (show 0 < k by omega)
    simp only [ontimeref20_Color.l1]
    rw [if_pos (by omega), if_pos (by omega), if_pos (by simp [fillL]; omega), Int.toNat_natCast, fillL_set (by omega), wr1 (by omega)]
    exact ih (i + 1) k (by omega) (by omega)

theorem Color_l0 {E : List (List Int)} (hE : Small E) (c : Nat) (r : List Int) (K : Nat)
    (hend : ∀ k, K ≤ k → ontimeref20_Color.l1 k E (c : Int) (E.length : Int) ((ColorLaw.order E.length (adjE E) c E.length).map fun a : Nat => (a : Int)) (List.replicate E.length 0) 0 = some r) : ∀ (d t k : Nat), t + d = E.length → K + d + 110 ≤ k →
    ontimeref20_Color.l0 k E (c : Int) (E.length : Int) (goneL E.length (ColorLaw.order E.length (adjE E) c t)) ((ColorLaw.order E.length (adjE E) c t).map fun a : Nat => (a : Int)) = some r := by
  have hn := hE.n
  intro d
  induction d with
  | zero =>
    intro t k ht hk
    obtain ⟨k, rfl, _⟩ := k_succ (show 0 < k by omega)
    simp only [ontimeref20_Color.l0]
    have e : t = E.length := by omega
    subst e
    rw [List.length_map, ColorLaw.order_len, if_neg (by omega), if_pos (by omega), if_pos (by omega), Int.toNat_natCast]
    exact hend _ (by omega)
  | succ d ih =>
    intro t k ht hk
    obtain ⟨k, rfl, _⟩ := k_succ (show 0 < k by omega)
    simp only [ontimeref20_Color.l0]
    obtain ⟨p, hp, hpn, hpR⟩ := ColorLaw.order_next E.length (adjE E) c t (by omega)
    rw [List.length_map, ColorLaw.order_len, if_pos (by omega), next_f hE _ _ _ (by omega), hp]
    simp only [Option.bind_some]
    rw [if_pos (by omega), if_pos (by rw [goneL_len]; omega), if_pos (by omega), Int.toNat_natCast, goneL_set]
    have e1 : ColorLaw.order E.length (adjE E) c (t + 1) = ColorLaw.order E.length (adjE E) c t ++ [p] := by
      show _ ++ [(ColorLaw.next _ _ _ _).toNat] = _
      rw [hp, Int.toNat_natCast]
    have := ih (t + 1) k (by omega) (by omega)
    rw [e1] at this
    simpa using this

/-- The reference's Color is the law's. -/
theorem Color_f {E : List (List Int)} (hE : Small E) (a1 : Int) (hc : a1 ≤ 30) (k : Nat) (hk : 6000 ≤ k) : ontimeref20_Color.f k E a1 = some (colorE E a1) := by
  have hn := hE.n
  have key : ∀ c : Nat, c ≤ 30 → ontimeref20_Color.j0 k E (c : Int) = some (ColorLaw.color E.length (adjE E) c) := by
    intro c hc
    obtain ⟨k, rfl, _⟩ := k_succ (show 0 < k by omega)
    simp only [ontimeref20_Color.j0]
    rw [if_pos (by omega), if_pos (by omega), Int.toNat_natCast]
    have h0 : List.replicate E.length false = goneL E.length (ColorLaw.order E.length (adjE E) c 0) := by
      unfold goneL
      apply List.ext_getElem?
      intro j
      by_cases hj : j < E.length
      · simp [hj, ColorLaw.order]
      · rw [List.getElem?_eq_none (by simpa using hj), List.getElem?_eq_none (by simpa using hj)]
    rw [h0]
    obtain ⟨hnd, hlt⟩ := ColorLaw.order_ok E.length (adjE E) c E.length (Nat.le_refl _)
    have hl := ColorLaw.order_len E.length (adjE E) c E.length
    refine Color_l0 hE c _ 5300 (fun k1 hk1 => ?_) E.length 0 k (by omega) (by omega)
    rw [← fillL_zero]
    refine Color_l1 hE c _ _ 5200 (fun k2 hk2 => ?_) E.length 0 k1 (by omega) (by omega)
    rw [Color_l2 hE c hc _ hl hlt hnd E.length k2 _ (Nat.le_refl _) (by simp) (fun j hj => by
      have := hlt ((ColorLaw.order E.length (adjE E) c E.length).getD j 0) (by rw [List.getD_eq_getElem?_getD, List.getElem?_eq_getElem (by omega)]; simp)
      rw [List.getD_eq_getElem?_getD, List.getElem?_replicate, if_pos this]; rfl) (by omega), fromTop_take _ _ (by omega)]
    unfold ColorLaw.color
    rw [List.take_of_length_le (by omega)]
  unfold ontimeref20_Color.f colorE
  by_cases h : a1 < 0
  · rw [if_pos h, show a1.toNat = 0 by omega]
    exact key 0 (by omega)
  · rw [if_neg h]
    have := key a1.toNat (by omega)
    rwa [Int.toNat_of_nonneg (by omega)] at this

theorem ints_l0 (x y : List Int) (h : x = y) (hl : x.length ≤ 100000) : ∀ (d i k : Nat), i + d = x.length → d < k → ontimelaw20_ints.l0 k x y (x.length : Int) (i : Int) = some true := by
  subst h
  intro d
  induction d with
  | zero =>
    intro i k hi hk
    obtain ⟨k, rfl, _⟩ := k_succ (show 0 < k by omega)
    simp only [ontimelaw20_ints.l0]
    rw [if_neg (by omega)]
  | succ d ih =>
    intro i k hi hk
    obtain ⟨k, rfl, _⟩ := k_succ (show 0 < k by omega)
    simp only [ontimelaw20_ints.l0]
    rw [if_pos (by omega), if_pos (by omega), if_pos (by omega), if_pos (by omega), if_pos trivial, wr1 (by omega)]
    exact ih (i + 1) k (by omega) (by omega)
theorem ints_f (x : List Int) (hl : x.length ≤ 100000) (k : Nat) (hk : x.length < k) : ontimelaw20_ints.f k x x = some true := by
  unfold ontimelaw20_ints.f
  rw [if_pos rfl]
  exact ints_l0 x x rfl hl x.length 0 k (by omega) (by omega)

theorem color_h (E : List (List Int)) (a1 : Int) (hn : E.length ≤ 1000) (hl : ∀ l ∈ E, l.length ≤ 1500) (ha : a1 ≤ 9223372036854775807) : regalloc_Color.f E a1 = some (colorE E a1) := by
  unfold regalloc_Color.f
  rw [if_pos ⟨hn, hl, ha⟩]

theorem awake_f (k : Nat) (hk : 10 ≤ k) : ontimelaw20_awake.f k = some true := by
  unfold ontimelaw20_awake.f
  simp only [Option.bind_some]
  have h1 : colorE [[1, 2], [2], []] 2 = [-1, 1, 0] := by decide +kernel
  have h2 : colorE [[1, 2], [2], []] 3 = [2, 1, 0] := by decide +kernel
  rw [color_h _ _ (by simp) (by simp) (by omega), h1, color_h _ _ (by simp) (by simp) (by omega), h2]
  simp only [Option.bind_some]
  rw [ints_f _ (by simp) k (by simp; omega), ints_f _ (by simp) k (by simp; omega)]
  rfl

theorem wide_l0 (E : List (List Int)) (hn : E.length ≤ 24) : ∀ (d i k : Nat), i + d = E.length → d < k → ∃ b, ontimelaw20_wide.l0 k E (E.length : Int) (i : Int) = some b ∧ (b = false → ∀ j, i ≤ j → j < E.length → (E.getD j []).length ≤ 40) := by
  intro d
  induction d with
  | zero =>
    intro i k hi hk
    obtain ⟨k, rfl, _⟩ := k_succ (show 0 < k by omega)
    simp only [ontimelaw20_wide.l0]
    rw [if_neg (by omega)]
    exact ⟨false, rfl, fun _ j h1 h2 => by omega⟩
  | succ d ih =>
    intro i k hi hk
    obtain ⟨k, rfl, _⟩ := k_succ (show 0 < k by omega)
    simp only [ontimelaw20_wide.l0]
    rw [if_pos (by omega), if_pos (by omega), if_pos (by omega), rdRow, wr1 (by omega)]
    by_cases h : ((E.getD i []).length : Int) > 40
    · rw [if_pos h]; exact ⟨true, rfl, fun h => by cases h⟩
    · rw [if_neg h]
      obtain ⟨b, h1, h2⟩ := ih (i + 1) k (by omega) (by omega)
      refine ⟨b, h1, fun hb j hj1 hj2 => ?_⟩
      by_cases e : j = i
      · subst e; omega
      · exact h2 hb j (by omega) hj2
theorem wide_f (E : List (List Int)) (k : Nat) (hk : 30 ≤ k) : ∃ b, ontimelaw20_wide.f k E = some b ∧ (b = false → Small E) := by
  unfold ontimelaw20_wide.f
  by_cases h : (E.length : Int) > 24
  · rw [if_pos h]; exact ⟨true, rfl, fun h => by cases h⟩
  · rw [if_neg h]
    obtain ⟨b, h1, h2⟩ := wide_l0 E (by omega) E.length 0 k (by omega) (by omega)
    refine ⟨b, by simpa using h1, fun hb => ⟨by omega, fun l hl => ?_⟩⟩
    obtain ⟨j, hj, rfl⟩ := List.getElem_of_mem hl
    have := h2 hb j (by omega) hj
    rwa [List.getD_eq_getElem?_getD, List.getElem?_eq_getElem hj] at this

end Go.Proofs.Ytefkkgldlijbbaa.H
