/- regalloc.remove: over a row of sets that are a symmetric graph it returns, in new memory, the nodes in the order in which the law of colouring removes them. -/
import Derived.Test.YtefkkgldlijbbaaNeigh
import Derived.Test.YtefkkgldlijbbaaColor
import Derived.Deep.QuietTactic
import Derived.BigQuiet
import Derived.Deep.DeepCutAuto
import Derived.Deep.CutBlock
namespace Go.Proofs.Ytefkkgldlijbbaa
open Go.RowKit Go.Maps Go.Proofs.YtefkkgldlijbbaaW.PrintWords

/-- A row of n cells, told by a function. -/
def rowF (f : Nat → Value) (n : Nat) : Array Value := ((List.range n).map f).toArray
theorem rowF_size (f : Nat → Value) (n : Nat) : (rowF f n).size = n := by simp [rowF]
theorem rowF_get {f : Nat → Value} {n i : Nat} (h : i < n) : (rowF f n)[i]? = some (f i) := by simp [rowF, h]
theorem rowF_congr {f g : Nat → Value} {n : Nat} (h : ∀ i, i < n → f i = g i) : rowF f n = rowF g n := by
  unfold rowF
  rw [List.map_congr_left (fun i hi => h i (List.mem_range.1 hi))]
theorem rowF_set {f : Nat → Value} {n k : Nat} (v : Value) : (rowF f n).setIfInBounds k v = rowF (fun i => if i = k then v else f i) n := by
  apply Array.ext_getElem?
  intro i
  by_cases hi : i < n
  · rw [Array.getElem?_setIfInBounds, rowF_get hi, rowF_get hi, rowF_size]
    by_cases e : k = i
    · subst e; simp [hi]
    · rw [if_neg e, if_neg (Ne.symm e)]
  · rw [Array.getElem?_eq_none (by simp [rowF]; omega), Array.getElem?_eq_none (by simp [rowF]; omega)]
theorem rowF_made (v : Value) (n : Nat) : madeCells #[v] n = rowF (fun _ => v) n := by
  apply Array.ext_getElem?
  intro i
  by_cases h : i < n
  · rw [rowF_get h]; simp [madeCells, h, Nat.mod_one]
  · rw [Array.getElem?_eq_none (by simp [madeCells]; omega), Array.getElem?_eq_none (by simp [rowF]; omega)]
theorem heap_set_row {w : World} {B k : Nat} {f : Nat → Value} {n t : Nat} (v : Value) (h : w.heap[B]? = some (.cells (rowF f n) t (0, 0))) :
    (w.setCell ⟨B, k, none⟩ v).heap[B]? = some (.cells (rowF (fun i => if i = k then v else f i) n) t (0, 0)) := by
  show (w.heap.modify _ _)[B]? = _
  rw [Array.getElem?_modify, if_pos rfl, h]
  simp [rowF_set]

/-- The graph that a row of sets is. -/
structure Graph (w : World) (g n m : Nat) (S : Nat → Int → Bool) : Prop where
  row : w.heap[g]? = some (.cells (mapCells g n n) 29 (0, 0))
  sets : ∀ a, a < n → IsSet w (g + 1 + a) m (S a)
  inside : ∀ a, a < n → ∀ x, S a x = true → 0 ≤ x ∧ x < n
  sym : ∀ a b, a < n → b < n → S a (b : Nat) = S b (a : Nat)
  irr : ∀ a : Nat, a < n → S a (a : Int) = false

theorem Graph.below {w w' : World} {g n m : Nat} {S : Nat → Int → Bool} (h : Graph w g n m S) (hb : Below w.heap.size w w') : Graph w' g n m S :=
  ⟨(hb.block _ (Array.getElem?_eq_some_iff.1 h.row).1).trans h.row, fun a ha => (h.sets a ha).below hb (h.sets a ha).lt, h.inside, h.sym, h.irr⟩
theorem Graph.cell {w : World} {g n m : Nat} {S : Nat → Int → Bool} (h : Graph w g n m S) {i : Nat} (hi : i < n) : w.cell? ⟨g, i, none⟩ = some (.map (some (g + 1 + i))) := by
  have := (cell_of_row h.row (mapCells_get (B := g) (n := n) (k := n) hi)).1
  rwa [if_pos hi] at this

abbrev adjN (S : Nat → Int → Bool) : Nat → Nat → Bool := fun a b => S a (b : Int)

/-- What is removed lowers its neighbours' degrees. -/
theorem deg_snoc {n : Nat} {A : Nat → Nat → Bool} {R : List Nat} {p a : Nat} (hp : p < n) (hR : R.contains p = false) (hsym : A a p = A p a) :
    ColorLaw.deg n A (R ++ [p]) a = ColorLaw.deg n A R a - (if A p a then 1 else 0) := by
  unfold ColorLaw.deg
  have key : ∀ l : List Nat, l.Nodup → (l.countP (fun b => !R.contains b && A a b) : Int) = (l.countP (fun b => !(R ++ [p]).contains b && A a b) : Int) + (if p ∈ l ∧ A p a = true then 1 else 0) := by
    intro l
    induction l with
    | nil => intro _; simp
    | cons b l ih =>
      intro hn
      obtain ⟨h1, h2⟩ := List.nodup_cons.1 hn
      have ih := ih h2
      simp only [List.countP_cons]
      by_cases e : b = p
      · subst e
        have h3 : ¬ (b ∈ l ∧ A b a = true) := fun h => h1 h.1
        rw [if_neg h3] at ih
        have h4 : (!(R ++ [b]).contains b && A a b) = false := by simp
        rw [h4, hR, hsym]
        generalize l.countP (fun b => !R.contains b && A a b) = X at ih ⊢
        generalize l.countP (fun b' => !(R ++ [b]).contains b' && A a b') = Y at ih ⊢
        by_cases h5 : A b a = true
        · rw [h5]; simp; omega
        · have : A b a = false := by simpa using h5
          rw [this]; simp; omega
      · have h3 : (R ++ [p]).contains b = R.contains b := by simp [e]
        have h4 : (p ∈ b :: l ∧ A p a = true) ↔ (p ∈ l ∧ A p a = true) := by simp [Ne.symm e]
        rw [h3]
        simp only [h4]
        omega
  have := key (List.range n) List.nodup_range
  have h6 : (p ∈ List.range n ∧ A p a = true) ↔ A p a = true := by simp [hp]
  simp only [h6] at this
  omega

theorem deg_le (n : Nat) (A : Nat → Nat → Bool) (R : List Nat) (a : Nat) : ColorLaw.deg n A R a ≤ n := by
  unfold ColorLaw.deg
  have := List.countP_le_length (p := fun b => !R.contains b && A a b) (l := List.range n)
  rw [List.length_range] at this
  omega

/-- While the nodes are removed: R are gone. -/
structure RM (w wr : World) (n : Nat) (S : Nat → Int → Bool) (R : List Nat) (v : Value) : Prop where
  deg : wr.heap[w.heap.size]? = some (.cells (rowF (fun a => .int .i64 (ColorLaw.deg n (adjN S) R a)) n) 3 (0, 0))
  gone : wr.heap[w.heap.size + 1]? = some (.cells (rowF (fun a => .bool (R.contains a)) n) 4 (0, 0))
  own : wr.ownsRow (w.heap.size + 2) 3 1 v R.length (nums .i64 (R.map fun a : Nat => (a : Int)))
  size : w.heap.size + 2 ≤ wr.heap.size
  below : Below w.heap.size w wr

theorem RM.drewN {w wr : World} {n : Nat} {S : Nat → Int → Bool} {R : List Nat} {v : Value} (h : RM w wr n S R v) (k : Nat) : RM w (wr.drewN k) n S R v :=
  ⟨h.deg, h.gone, pw_own_below h.own (pw_below_drewN (Below.refl _ _) k), h.size, pw_below_drewN h.below k⟩

/-- While p's neighbours' degrees are lowered: what the degrees are is told by f. -/
structure RD (w wr : World) (n : Nat) (R : List Nat) (v : Value) (f : Nat → Int) : Prop where
  deg : wr.heap[w.heap.size]? = some (.cells (rowF (fun a => .int .i64 (f a)) n) 3 (0, 0))
  gone : wr.heap[w.heap.size + 1]? = some (.cells (rowF (fun a => .bool (R.contains a)) n) 4 (0, 0))
  own : wr.ownsRow (w.heap.size + 2) 3 1 v R.length (nums .i64 (R.map fun a : Nat => (a : Int)))
  size : w.heap.size + 2 ≤ wr.heap.size
  below : Below w.heap.size w wr
theorem RD.grown {w wr wr' : World} {n : Nat} {R : List Nat} {v : Value} {f : Nat → Int} (h : RD w wr n R v f) {row : Option Nat} (hg : wr.grownBy wr' row) (hr : ∀ k, row = some k → w.heap.size + 2 ≤ k) (hv : v.ownBlock = none ∨ v.ownBlock ≠ row) : RD w wr' n R v f := by
  have hs := h.size
  refine ⟨(hg.block _ (by omega) (fun e => by have := hr _ e.symm; omega)).trans h.deg, (hg.block _ (by omega) (fun e => by have := hr _ e.symm; omega)).trans h.gone, h.own.kept hg hv, by have := hg.size; omega, ?_⟩
  exact h.below.grown hg (by omega) (fun k hk => by have := hr _ hk; omega)
theorem RD.lower {w wr : World} {n : Nat} {R : List Nat} {v : Value} {f : Nat → Int} (h : RD w wr n R v f) (k : Nat) (x : Int) : RD w (wr.setCell ⟨w.heap.size, k, none⟩ (.int .i64 x)) n R v (fun a => if a = k then x else f a) := by
  refine ⟨?_, (Below.heap_setCell _ _ _ _ (by simp)).trans h.gone, ?_, by simpa [World.setCell] using h.size, h.below.setCell (p := ⟨w.heap.size, k, none⟩) (Nat.le_refl _) _⟩
  · rw [heap_set_row _ h.deg]
    congr 2
    exact rowF_congr (fun i _ => by split <;> rfl)
  · refine own_setCell h.own ?_ _
    intro e
    have := own_base h.own _ e.symm
    simp at this
    omega

/-- A node is gone, and at the end of the list. -/
theorem RM.taken {w wr w1 : World} {n p : Nat} {S : Nat → Int → Bool} {R : List Nat} {v v1 : Value} (h : RM w wr n S R v)
    (ho : w1.ownsRow (w.heap.size + 2) 3 1 v1 ((R.map fun a : Nat => (a : Int)) ++ [(p : Int)]).length (nums .i64 ((R.map fun a : Nat => (a : Int)) ++ [(p : Int)]))) (hg : (wr.setCell ⟨w.heap.size + 1, p, none⟩ (.bool true)).grownBy w1 v.ownBlock) :
    RD w w1 n (R ++ [p]) v1 (ColorLaw.deg n (adjN S) R) := by
  have hs := h.size
  have hs1 : (wr.setCell ⟨w.heap.size + 1, p, none⟩ (.bool true)).heap.size = wr.heap.size := by simp [World.setCell]
  have hv : ∀ k, v.ownBlock = some k → w.heap.size + 2 ≤ k := own_base h.own
  refine ⟨?_, ?_, ?_, by have := hg.size; omega, ?_⟩
  · exact (hg.block _ (by omega) (fun e => by have := hv _ e.symm; omega)).trans ((Below.heap_setCell _ _ _ _ (by simp)).trans h.deg)
  · refine (hg.block _ (by omega) (fun e => by have := hv _ e.symm; omega)).trans ((heap_set_row _ h.gone).trans ?_)
    congr 2
    refine rowF_congr (fun i _ => ?_)
    by_cases e : i = p
    · subst e; simp
    · simp [e]
  · have e1 : (R ++ [p]).map (fun a : Nat => (a : Int)) = R.map (fun a : Nat => (a : Int)) ++ [(p : Int)] := by simp
    rw [e1]
    have e2 : ((R.map fun a : Nat => (a : Int)) ++ [(p : Int)]).length = (R ++ [p]).length := by simp
    rw [← e2]
    exact ho
  · exact (h.below.setCell (p := ⟨w.heap.size + 1, p, none⟩) (by simp) _).grown hg (by omega) (fun k hk => by have := hv _ hk; omega)

/-- The choice among the first i nodes. -/
def pickP (n : Nat) (S : Nat → Int → Bool) (c : Int) (R : List Nat) (i : Nat) : Int := (List.range i).foldl (ColorLaw.pickStep (ColorLaw.deg n (adjN S) R) (fun a => R.contains a) c) (-1)
theorem pickP_succ (n : Nat) (S : Nat → Int → Bool) (c : Int) (R : List Nat) (i : Nat) : pickP n S c R (i + 1) = ColorLaw.pickStep (ColorLaw.deg n (adjN S) R) (fun a => R.contains a) c (pickP n S c R i) i := by
  unfold pickP; rw [List.range_succ, List.foldl_append]; rfl
theorem pickP_range (n : Nat) (S : Nat → Int → Bool) (c : Int) (R : List Nat) : ∀ i, pickP n S c R i = -1 ∨ ∃ q : Nat, q < i ∧ pickP n S c R i = (q : Int)
  | 0 => .inl rfl
  | i + 1 => by
    rw [pickP_succ]
    have h : pickP n S c R i = -1 ∨ ∃ q : Nat, q < i + 1 ∧ pickP n S c R i = (q : Int) := by
      rcases pickP_range n S c R i with h | ⟨q, h1, h2⟩
      · exact .inl h
      · exact .inr ⟨q, by omega, h2⟩
    unfold ColorLaw.pickStep
    split
    · exact h
    · split
      · split
        · exact .inr ⟨i, by omega, rfl⟩
        · exact h
      · split
        · exact .inr ⟨i, by omega, rfl⟩
        · exact h

set_option maxHeartbeats 4000000 in
set_option maxRecDepth 100000 in
theorem remove_calls (g n m : Nat) (S : Nat → Int → Bool) (c : Int) (w : World) (hG : Graph w g n m S) (hn : n ≤ 1000) (_hm : m ≤ 4000000) (hc : 0 ≤ c) :
    Calls Try.prog 14 #[.slice (some ⟨g, 0, none⟩) n n, .int .i64 c] w fun e w' => ∃ v, e = .returned v ∧
      w'.ownsRow w.heap.size 3 1 v n (nums .i64 ((ColorLaw.order n (adjN S) c n).map fun a : Nat => (a : Int))) ∧ Below w.heap.size w w' := by
  have hinfo3 : (Try.prog.info? 3).map (fun i => (i.zero, i.size, i.bytes)) = some (some (.int .i64 0), 1, 8) := by kernel_rfl
  have hinfo4 : (Try.prog.info? 4).map (fun i => (i.zero, i.size, i.bytes)) = some (some (.bool false), 1, 1) := by kernel_rfl
  have hmk := run_make_row' (P := Try.prog) 26 3 (.int .i64 0) 8 Try.underlying26 hinfo3 rfl .i64 .i64 n (by omega) (by omega)
  have hmk2 := run_make_row' (P := Try.prog) 36 4 (.bool false) 1 Try.underlying36 hinfo4 rfl .i64 .i64 n (by omega) (by omega)
  have hr1 := rowF_made (.int .i64 0) n
  have hr2 := rowF_made (.bool false) n
  clear hinfo3 hinfo4
  go_enter Try.func14, Try.ntmps14
  go_wp2
  clear hmk hmk2 hr1 hr2
  have HG := Lib.hid hG
  clear hG
  go_loopw [21] (fun v wr => ∃ k : Nat, k ≤ n ∧ v = .int .i64 k ∧ wr.heap[w.heap.size]? = some (.cells (rowF (fun a => if a < k then .int .i64 (ColorLaw.deg n (adjN S) [] a) else .int .i64 0) n) 3 (0, 0)) ∧
      wr.heap[w.heap.size + 1]? = some (.cells (rowF (fun _ => .bool false) n) 4 (0, 0)) ∧ wr.heap.size = w.heap.size + 2 ∧ Below w.heap.size w wr) (fun v _ => n - (intOf v).toNat)
  case atStart =>
    refine ⟨0, Nat.zero_le _, rfl, ?_, ?_, by simp, ((Below.refl _ _).alloc (Nat.le_refl _) _).alloc (by simp) _⟩
    · exact (Below.heap_alloc _ _ _ (by simp)).trans (MapKept.heap_alloc w _).1
    · have := (MapKept.heap_alloc (w.alloc (.cells (rowF (fun _ => Value.int .i64 0) n) 3)) (.cells (rowF (fun _ => .bool false) n) 4 (0, 0))).1
      simpa using this
  case round =>
    obtain ⟨k, hk, rfl, hd, hg, hs, hb⟩ := hrel
    by_cases hlt : k < n
    · have hGr := HG.out.below hb
      have hmc := hGr.cell hlt
      obtain ⟨nn, D, hown, _, _, hsz⟩ := (hGr.sets k hlt).size (N := n) (by omega) (HG.out.inside k hlt)
      have hlen := fun ty => hown.len Try.underlying29 ty
      rw [hsz] at hlen
      obtain ⟨hc1, hf1⟩ := cell_of_row hd (rowF_get (f := fun a => if a < k then Value.int .i64 (ColorLaw.deg n (adjN S) [] a) else .int .i64 0) hlt)
      have R : ∀ wr', wr' = wr.setCell ⟨w.heap.size, k, none⟩ (.int .i64 ((List.range n).countP (fun i : Nat => S k i) : Nat)) →
          wr'.heap[w.heap.size]? = some (.cells (rowF (fun a => if a < k + 1 then .int .i64 (ColorLaw.deg n (adjN S) [] a) else .int .i64 0) n) 3 (0, 0)) ∧
          wr'.heap[w.heap.size + 1]? = some (.cells (rowF (fun _ => .bool false) n) 4 (0, 0)) ∧ wr'.heap.size = w.heap.size + 2 ∧ Below w.heap.size w wr' := by
        rintro wr' rfl
        refine ⟨?_, (Below.heap_setCell _ _ _ _ (by simp)).trans hg, by simp [World.setCell, hs], hb.setCell (p := ⟨w.heap.size, k, none⟩) (Nat.le_refl _) _⟩
        rw [heap_set_row _ hd]
        congr 2
        refine rowF_congr (fun i hi => ?_)
        by_cases e : i = k
        · subst e; simp [ColorLaw.deg]
        · by_cases h1 : i < k
          · rw [if_neg e, if_pos h1, if_pos (by omega)]
          · rw [if_neg e, if_neg h1, if_neg (by omega)]
      have HR := Lib.hid R
      clear R hd hg hs hb hGr hown hsz
      go_wp2
      go_roundw
      case rel => exact ⟨k + 1, by omega, by go_num, HR.out _ rfl⟩
      case measure => simp [intOf]; omega
    · obtain rfl : n = k := by omega
      go_wp2
      have HRM : RM w wr n S [] (.slice none 0 0) := by
        refine ⟨?_, ?_, own_nil _ _ _ _, by omega, hb⟩
        · rw [hd]; congr 2; exact rowF_congr (fun i hi => by rw [if_pos hi])
        · rw [hg]; congr 2
      have HS := Lib.hid HG.out.sym
      have HLT : Hid (∀ a, a < n → g + 1 + a < w.heap.size) := Lib.hid (fun a ha => (HG.out.sets a ha).lt)
      have HG1 : Hid (∀ wr, Below w.heap.size w wr → Hid (Graph wr g n m S)) := Lib.hid (fun wr hb => Lib.hid (HG.out.below hb))
      clear hd hg hs hb hk hlt HG
      obtain ⟨w1, hw1⟩ : ∃ w1, w1 = wr := ⟨_, rfl⟩
      rw [← hw1] at HRM ⊢
      clear hw1 wr
      have HG := HG1
      clear HG1
      go_loopw [34, 9] (fun v ov wr => ∃ t : Nat, t ≤ n ∧ v = .int .i64 t ∧ RM w wr n S (ColorLaw.order n (adjN S) c t) ov) (fun v _ _ => n - (intOf v).toNat)
      case atStart => exact ⟨0, Nat.zero_le _, rfl, HRM⟩
      case round =>
        clear HRM
        obtain ⟨t, ht, rfl, HRM⟩ := hrel
        by_cases hlt : t < n
        · obtain ⟨R, hR⟩ : ∃ R, R = ColorLaw.order n (adjN S) c t := ⟨_, rfl⟩
          rw [← hR] at HRM
          have HR := Lib.hid hR
          clear hR
          go_wp2
          obtain ⟨w2, hw2⟩ : ∃ w2, w2 = wr := ⟨_, rfl⟩
          rw [← hw2] at HRM ⊢
          clear hw2 wr
          go_loopw [38, 10] (fun v pv wr => ∃ i : Nat, i ≤ n ∧ v = .int .i64 i ∧ pv = .int .i64 (pickP n S c R i) ∧ ∃ k, wr = w2.drewN k) (fun v _ _ => n - (intOf v).toNat)
          case atStart => exact ⟨0, Nat.zero_le _, rfl, rfl, 0, rfl⟩
          case round =>
            obtain ⟨i, hi, rfl, rfl, k, rfl⟩ := hrel
            by_cases hil : i < n
            · have hps := pickP_succ n S c R i
              have hpr := pickP_range n S c R i
              have hgc := (cell_of_row HRM.gone (rowF_get (f := fun a => Value.bool (R.contains a)) hil)).1
              have hdc := (cell_of_row HRM.deg (rowF_get (f := fun a => Value.int .i64 (ColorLaw.deg n (adjN S) R a)) hil)).1
              have hd0 := ColorLaw.deg_nonneg n (adjN S) R i
              have hd1 := deg_le n (adjN S) R i
              have hq := fun q (h : q < n) => (cell_of_row HRM.deg (rowF_get (f := fun a => Value.int .i64 (ColorLaw.deg n (adjN S) R a)) h)).1
              generalize hpp : pickP n S c R i = pp at hps hpr ⊢
              clear hpp
              unfold ColorLaw.pickStep at hps
              by_cases hg : R.contains i = true
              · rw [if_pos hg] at hps
                rw [hg] at hgc
                have HV := Lib.hid hps
                clear hps hq hpr hg
                go_wp2
                go_roundw
                case rel => exact ⟨i + 1, by omega, by go_num, by rw [HV.out], _, rfl⟩
                case measure => simp [intOf]; omega
              · rw [if_neg hg] at hps
                rw [show R.contains i = false by simpa using hg] at hgc
                clear hg
                by_cases h1 : ColorLaw.deg n (adjN S) R i < c
                · rw [if_pos h1] at hps
                  have b1 : decide (ColorLaw.deg n (adjN S) R i < c) = true := decide_eq_true h1
                  rcases hpr with rfl | ⟨q, hq1, rfl⟩
                  · rw [if_pos (by omega)] at hps
                    have HV := Lib.hid hps
                    clear hps hq h1
                    go_wp2
                    go_roundw
                    case rel => exact ⟨i + 1, by omega, by go_num, by rw [HV.out], _, rfl⟩
                    case measure => simp [intOf]; omega
                  · have hcq := hq q (by omega)
                    have b2 : decide ((q : Int) < 0) = false := decide_eq_false (by omega)
                    rw [Int.toNat_natCast] at hps
                    clear hq
                    by_cases h2 : c ≤ ColorLaw.deg n (adjN S) R q
                    · rw [if_pos (by omega)] at hps
                      have b3 : decide (c ≤ ColorLaw.deg n (adjN S) R q) = true := decide_eq_true h2
                      have HV := Lib.hid hps
                      clear hps h1 h2
                      go_wp2
                      go_roundw
                      case rel => exact ⟨i + 1, by omega, by go_num, by rw [HV.out], _, rfl⟩
                      case measure => simp [intOf]; omega
                    · rw [if_neg (by omega)] at hps
                      have b3 : decide (c ≤ ColorLaw.deg n (adjN S) R q) = false := decide_eq_false h2
                      have HV := Lib.hid hps
                      clear hps h1 h2
                      go_wp2
                      go_roundw
                      case rel => exact ⟨i + 1, by omega, by go_num, by rw [HV.out], _, rfl⟩
                      case measure => simp [intOf]; omega
                · rw [if_neg h1] at hps
                  have b1 : decide (ColorLaw.deg n (adjN S) R i < c) = false := decide_eq_false h1
                  rcases hpr with rfl | ⟨q, hq1, rfl⟩
                  · rw [if_pos (by omega)] at hps
                    have HV := Lib.hid hps
                    clear hps hq h1
                    go_wp2
                    go_quiet (fail)
                    go_wp2
                    go_roundw
                    case rel => exact ⟨i + 1, by omega, by go_num, by rw [HV.out], _, rfl⟩
                    case measure => simp [intOf]; omega
                  · have hcq := hq q (by omega)
                    have b2 : decide ((q : Int) < 0) = false := decide_eq_false (by omega)
                    rw [Int.toNat_natCast] at hps
                    clear hq
                    by_cases h2 : c ≤ ColorLaw.deg n (adjN S) R q
                    · have b3 : decide (c ≤ ColorLaw.deg n (adjN S) R q) = true := decide_eq_true h2
                      by_cases h3 : ColorLaw.deg n (adjN S) R q < ColorLaw.deg n (adjN S) R i
                      · rw [if_pos (by omega)] at hps
                        have b4 : decide (ColorLaw.deg n (adjN S) R q < ColorLaw.deg n (adjN S) R i) = true := decide_eq_true h3
                        have HV := Lib.hid hps
                        clear hps h1 h2 h3
                        go_wp2
                        go_quiet (fail)
                        go_wp2
                        go_roundw
                        case rel => exact ⟨i + 1, by omega, by go_num, by rw [HV.out], _, rfl⟩
                        case measure => simp [intOf]; omega
                      · rw [if_neg (by omega)] at hps
                        have b4 : decide (ColorLaw.deg n (adjN S) R q < ColorLaw.deg n (adjN S) R i) = false := decide_eq_false h3
                        have HV := Lib.hid hps
                        clear hps h1 h2 h3
                        go_wp2
                        go_quiet (fail)
                        go_wp2
                        go_roundw
                        case rel => exact ⟨i + 1, by omega, by go_num, by rw [HV.out], _, rfl⟩
                        case measure => simp [intOf]; omega
                    · rw [if_neg (by omega)] at hps
                      have b3 : decide (c ≤ ColorLaw.deg n (adjN S) R q) = false := decide_eq_false h2
                      have HV := Lib.hid hps
                      clear hps h1 h2
                      go_wp2
                      go_quiet (fail)
                      go_wp2
                      go_roundw
                      case rel => exact ⟨i + 1, by omega, by go_num, by rw [HV.out], _, rfl⟩
                      case measure => simp [intOf]; omega
            · have e : i = n := by omega
              subst e
              obtain ⟨p, hp, hpn, hpR⟩ := ColorLaw.order_next i (adjN S) c t hlt
              rw [← HR.out] at hp hpR
              have hpick : pickP i S c R i = (p : Int) := by
                unfold pickP
                rw [ColorLaw.pick_scan _ _ _ hc (ColorLaw.deg_nonneg _ _ _) _ (-1) (-1) (.inl ⟨rfl, rfl⟩)]
                exact hp
              rw [hpick]
              clear hpick hil hi
              have HP := Lib.hid hp
              have HPR := Lib.hid hpR
              clear hp hpR
              have HRM := HRM.drewN k
              obtain ⟨w3, hw3⟩ : ∃ w3, w3 = w2.drewN k := ⟨_, rfl⟩
              rw [← hw3] at HRM ⊢
              clear hw3
              obtain ⟨hc1, hf1⟩ := cell_of_row HRM.gone (rowF_get (f := fun a => Value.bool (R.contains a)) hpn)
              have hRl : R.length = t := by rw [HR.out, ColorLaw.order_len]
              have hown0 : (w3.setCell ⟨w.heap.size + 1, p, none⟩ (.bool true)).ownsRow (w.heap.size + 2) 3 1 u9 (R.map fun a : Nat => (a : Int)).length (nums .i64 (R.map fun a : Nat => (a : Int))) := by
                rw [List.length_map]
                exact own_setCell HRM.own (fun e => by have h_ : w.heap.size + 2 ≤ w.heap.size + 1 := own_base HRM.own _ e.symm; omega) _
              have hlim : ((R.map fun a : Nat => (a : Int)).length + 1) * 8 ≤ 140737488355328 := by rw [List.length_map, hRl]; omega
              have hbs : w.heap.size + 2 ≤ (w3.setCell ⟨w.heap.size + 1, p, none⟩ (.bool true)).heap.size := by simpa [World.setCell] using HRM.size
              have HRl := Lib.hid hRl
              clear hRl
              have hinfo3 : (Try.prog.info? 3).map (fun i => (i.zero, i.size, i.bytes)) = some (some (.int .i64 0), 1, 8) := by kernel_rfl
              have HI := Lib.hid hinfo3
              clear hinfo3
              go_upto_region 23 with (fail)
              obtain ⟨wb, hwb⟩ : ∃ wb, wb = w3.setCell ⟨w.heap.size + 1, p, none⟩ (.bool true) := ⟨_, rfl⟩
              have HTK := Lib.hid (fun v1 wa => HRM.taken (p := p) (v1 := v1) (w1 := wa))
              rw [← hwb] at hown0 hbs HTK ⊢
              clear hwb hc1 hf1
              go_wp2_with (first | (at_builtin; refine print_append_num (w0 := wb) (w.heap.size + 2) rfl _ _ 26 3 .i64 8 rfl Try.underlying26 HI.out (by omega) u9 (R.map fun a : Nat => (a : Int)) (p : Int) rfl rfl hown0 (Below.refl _ _) hbs hlim ?_; intro v1 wa hown1 _ hg1 _; have HRD := HTK.out _ _ hown1 hg1; have hGr := (HG.out wa HRD.below).out; have hmc := hGr.cell hpn; have hset := hGr.sets p hpn; clear hown1 hg1 hown0 hbs hlim HRM HTK) | (at_range; refine wpList_range_set _ rfl _ rfl _ m (S p) rfl hset ?_; intro w4 left0 cnt0 hrg0 hl0 hg0 hs0) | fail)
              go_frame
              have HIN := Lib.hid (hGr.inside p hpn)
              have HRD4 : RD w w4 i (R ++ [p]) v1 (ColorLaw.deg i (adjN S) R) := HRD.grown hg0 (fun k h => by cases h) (by cases v1.ownBlock <;> simp)
              have hrb : w.heap.size + 2 ≤ wa.heap.size := HRD.size
              have HV1 : Hid (∀ k, v1.ownBlock = some k → k < wa.heap.size) := Lib.hid (own_lt HRD.own)
              have HL0 := Lib.hid hl0
              clear hGr HRD hmc hset hg0 hs0 hl0
              obtain ⟨r, hr⟩ : ∃ r, r = wa.heap.size := ⟨_, rfl⟩
              rw [← hr] at hrg0 hrb HV1 ⊢
              clear hr
              go_loopw [12] (fun _ wr => ∃ (left : Int → Bool) (cnt : Nat), Ranging wr (g + 1 + p) r (S p) left cnt ∧ RD w wr i (R ++ [p]) v1 (fun a => ColorLaw.deg i (adjN S) R a - (if S p a = true ∧ left a = false then 1 else 0)))
                (fun _ wr => wr.rangeLeft (g + 1 + p) r)
              case atStart =>
                refine ⟨_, _, hrg0, HRD4.deg.trans ?_, HRD4.gone, HRD4.own, HRD4.size, HRD4.below⟩
                congr 2
                refine rowF_congr (fun a ha => ?_)
                rw [if_neg, Int.sub_zero]
                rintro ⟨h1, h2⟩
                rw [HL0.out _ (wfI (by omega) (by omega)), h1] at h2
                cases h2
              case round =>
                clear HRD4 hrg0 HL0
                obtain ⟨left, cnt, hrg, HRD⟩ := hrel
                have HRD' := Lib.hid HRD
                clear HRD
                go_wp2_with (first | (at_next; refine wpList_next_set _ rfl _ rfl (g + 1 + p) r (S p) left cnt rfl hrg ?_ ?_) | fail)
                · -- nothing is left
                  intro hl0
                  have HX : RM w wr i S (ColorLaw.order i (adjN S) c (t + 1)) v1 := by
                    have HRD := HRD'.out
                    have e1 : ColorLaw.order i (adjN S) c (t + 1) = R ++ [p] := by
                      show ColorLaw.order i (adjN S) c t ++ [(ColorLaw.next i (adjN S) c (ColorLaw.order i (adjN S) c t)).toNat] = _
                      rw [← HR.out, HP.out, Int.toNat_natCast]
                    rw [e1]
                    refine ⟨HRD.deg.trans ?_, HRD.gone, HRD.own, HRD.size, HRD.below⟩
                    congr 2
                    refine rowF_congr (fun a ha => ?_)
                    have hsy := HS.out a p ha hpn
                    rw [deg_snoc hpn HPR.out hsy, hl0 a (wfI (by omega) (by omega))]
                    simp [adjN]
                  clear HRD' hl0 hrg
                  go_wp2
                  go_roundw
                  case rel => exact ⟨t + 1, by omega, by go_num, HX⟩
                  case measure => simp [intOf]; omega
                · -- a neighbour
                  intro x cb w5 cnt' hwx hSx hlx hrg1 hlt1 hg1 hs1 hen
                  obtain ⟨hx0, hx1⟩ := HIN.out x hSx
                  have HRD5 : RD w w5 i (R ++ [p]) v1 (fun a => ColorLaw.deg i (adjN S) R a - (if S p a = true ∧ left a = false then 1 else 0)) := by
                    refine HRD'.out.grown hg1 (fun k h => by cases h; exact hrb) ?_
                    cases hob : v1.ownBlock with
                    | none => exact .inl rfl
                    | some ob => exact .inr (fun e => by cases e; have := HV1.out _ hob; omega)
                  have hxn : x.toNat < i := by omega
                  obtain ⟨hc1, hf1⟩ := cell_of_row HRD5.deg (rowF_get (f := fun a => Value.int .i64 (ColorLaw.deg i (adjN S) R a - (if S p a = true ∧ left a = false then 1 else 0))) hxn)
                  have e0 : (if S p (x.toNat : Int) = true ∧ left (x.toNat : Int) = false then (1 : Int) else 0) = 0 := by
                    rw [Int.toNat_of_nonneg hx0, hlx]; simp
                  rw [e0, Int.sub_zero] at hc1
                  have hd0 := ColorLaw.deg_nonneg i (adjN S) R x.toNat
                  have hd1 := deg_le i (adjN S) R x.toNat
                  have b0 : decide (0 ≤ x) = true := decide_eq_true hx0
                  have b1 : decide (x < (i : Int)) = true := decide_eq_true hx1
                  have HX : RD w (w5.setCell ⟨w.heap.size, x.toNat, none⟩ (.int .i64 (ColorLaw.deg i (adjN S) R x.toNat - 1))) i (R ++ [p]) v1 (fun a => ColorLaw.deg i (adjN S) R a - (if S p a = true ∧ (left a && !((a : Int) == x)) = false then 1 else 0)) := by
                    have h := HRD5.lower x.toNat (ColorLaw.deg i (adjN S) R x.toNat - 1)
                    refine ⟨h.deg.trans ?_, h.gone, h.own, h.size, h.below⟩
                    congr 2
                    refine rowF_congr (fun a ha => ?_)
                    by_cases e : a = x.toNat
                    · subst e
                      rw [if_pos rfl, Int.toNat_of_nonneg hx0, hSx]
                      simp
                    · have e2 : ((a : Int) == x) = false := by simp; omega
                      rw [if_neg e, e2]
                      simp
                  have HY : Ranging (w5.setCell ⟨w.heap.size, x.toNat, none⟩ (.int .i64 (ColorLaw.deg i (adjN S) R x.toNat - 1))) (g + 1 + p) r (S p) (fun z => left z && !(z == x)) cnt' := by
                    refine hrg1.kept (row := some w.heap.size) ⟨rfl, rfl, rfl, by simp [World.setCell], fun k _ hk => Below.heap_setCell _ _ _ _ (fun e => hk (by rw [e]))⟩ (by have := HLT.out p hpn; simp; omega) (by simp; omega)
                  have HX' := Lib.hid HX
                  have HY' := Lib.hid HY
                  have HM := Lib.hid hrg.left_eq
                  clear HX HY HRD5 HRD' hrg hrg1 hs1 hg1 e0 hSx hlx
                  go_wp2
                  go_roundw
                  case rel => exact ⟨_, _, HY'.out, HX'.out⟩
                  case measure => rw [HY'.out.left_eq, HM.out]; exact hlt1
        · have e : t = n := by omega
          subst e
          have hown := own_weaken HRM.own (show w.heap.size ≤ w.heap.size + 2 by omega)
          rw [ColorLaw.order_len] at hown
          have HO := Lib.hid hown
          have HB := Lib.hid HRM.below
          clear HRM hown
          go_wp2
          go_ret
          exact ⟨_, rfl, HO.out, HB.out⟩

end Go.Proofs.Ytefkkgldlijbbaa
